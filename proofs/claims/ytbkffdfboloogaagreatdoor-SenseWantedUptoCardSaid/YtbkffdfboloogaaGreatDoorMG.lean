/- goods.rising, goods.Join: lots of all goods of a map, rising. pack.Content, pack.size. -/
import Derived.Test.YtbkffdfboloogaaGreatDoorNB
import Derived.Test.YtbkffdfboloogaaGreatDoorNC
import Derived.Shelf.SlSortCmp.NoneTotal
namespace Go.Proofs.YtbkffdfboloogaaGreatDoor
open Go.RowKit Go.Maps Go.Lib Go.Sort
set_option linter.unusedVariables false
set_option maxRecDepth 100000

theorem cntR_le {P : Program} {k : TypeId} {α β : Type} {C : KeyC P k α} {E : ElC β} {w : World} {b r n : Nat} {G : α → Option β} {lf : α → Bool} {cnt : Nat} (h : Rn' C E w b r n G lf cnt) : cnt ≤ n := by
  obtain ⟨D, left, h, _⟩ := h
  obtain ⟨es, clock, since, seen, c0, _, _, h3, _, _, _, h7, _⟩ := h
  have : (leftOf es seen).size ≤ es.size := Array.size_filter_le
  omega
/-- the row behind the sort -/
theorem sorted_lts (w : World) (blk off n : Nat) (d d' : Array Lt) (os : Array Obj) (hblk : blk < w.heap.size) (hH : HoldsK encLt 2 w blk off d) (hs : d'.size = d.size) :
    Lts (sortWorldK encLt 2 w blk off n d' os) (sortWorldK encLt 2 w blk off n d' os).heap.size (some ⟨blk, off, none⟩) d'.toList := fun _ => by
  have h := holdsK_sortWorldK encLt 2 w blk off n d d' os hblk hH hs
  have hlt := lt_sortWorldK encLt 2 w blk off n d' os hblk
  refine ⟨blk, off, rfl, hlt, fun i x hx => ?_⟩
  have hi : i < d'.size := by simpa using (List.getElem?_eq_some_iff.1 hx).1
  have hxe : d'[i]! = x := by
    have e : d'.toList[i]? = d'[i]? := Array.getElem?_toList
    rw [e] at hx
    simp [Array.getElem!_eq_getD, Array.getD, hi] at *
    exact hx
  have hsz : (flatK encLt 2 d').size = d'.size * 2 := by simp [flatK]
  have hcell : ∀ j, j < 2 → (sortWorldK encLt 2 w blk off n d' os).cell? ⟨blk, off + (i * 2 + j), none⟩ = some ((encLt x)[j]!) := fun j hj => by
    have := (h (i * 2 + j) (by rw [hsz]; omega)).1
    rw [this]
    congr 1
    show id (flatK encLt 2 d')[i * 2 + j]! = _
    simp only [id, flatK]
    rw [Array.getElem!_eq_getD, Array.getD_eq_getD_getElem?]
    rw [Array.getElem?_map, Array.getElem?_range, if_pos (by omega)]
    simp only [Option.map_some, Option.getD_some]
    rw [show (i * 2 + j) / 2 = i by omega, show (i * 2 + j) % 2 = j by omega, hxe]
  have h0 := hcell 0 (by omega)
  have h1 := hcell 1 (by omega)
  rw [Nat.add_zero] at h0
  rw [← Nat.add_assoc] at h1
  exact ⟨h0, h1⟩
theorem sorted_below (w : World) (base blk off n : Nat) (d' : Array Lt) (os : Array Obj) (hblk : blk < w.heap.size) (hb : base ≤ blk) : Below base w (sortWorldK encLt 2 w blk off n d' os) := by
  refine ⟨rfl, rfl, rfl, size_sortWorldK_c (enc := encLt) (k := 2) (w := w) (blk := blk) (off := off) n d' os, fun q hq => ?_⟩
  have hlt : q < w.heap.size := by omega
  show ((putRowK encLt 2 (Sort.ahead w n) blk off d').heap ++ os)[q]? = w.heap[q]?
  have hz : (putRowK encLt 2 (Sort.ahead w n) blk off d').heap.size = w.heap.size := by simp [putRowK, putRow, mapBlock, Sort.ahead]
  rw [Array.getElem?_append_left (by omega)]
  simp only [putRowK, putRow, mapBlock]
  rw [Array.getElem?_modify]
  have hne : blk ≠ q := by omega
  simp [hne, Sort.ahead]
theorem sorted_type (w : World) (blk off n : Nat) (d' : Array Lt) (os : Array Obj) (hblk : blk < w.heap.size) {cs : Array Value} {fz : Nat × Nat} (h : w.heap[blk]? = some (.cells cs 123 fz)) :
    ∃ cs', (sortWorldK encLt 2 w blk off n d' os).heap[blk]? = some (.cells cs' 123 fz) := by
  have hz : (putRowK encLt 2 (Sort.ahead w n) blk off d').heap.size = w.heap.size := by simp [putRowK, putRow, mapBlock, Sort.ahead]
  refine ⟨putCells id off (flatK encLt 2 d') cs, ?_⟩
  show ((putRowK encLt 2 (Sort.ahead w n) blk off d').heap ++ os)[blk]? = _
  rw [Array.getElem?_append_left (by omega)]
  simp only [putRowK, putRow, mapBlock]
  rw [Array.getElem?_modify]
  simp [Sort.ahead, h, onCells]
/-- a slice of lots in a block of their own -/
def LtR (w : World) (B : Nat) (A : Option Addr) (L : List Lt) : Prop := L = [] ∨ ∃ g off cs fz, A = some ⟨g, off, none⟩ ∧ B ≤ g ∧ w.heap[g]? = some (.cells cs 123 fz) ∧ LtAt w g off L
theorem LtR.kept {w w' : World} {B : Nat} {A : Option Addr} {L : List Lt} (h : LtR w B A L) (hk : ∀ g cs fz, B ≤ g → w.heap[g]? = some (.cells cs 123 fz) → w'.heap[g]? = some (.cells cs 123 fz)) : LtR w' B A L := by
  rcases h with rfl | ⟨g, off, cs, fz, e, hB, hg, hc⟩
  · exact .inl rfl
  · have hg' := hk g cs fz hB hg
    refine .inr ⟨g, off, cs, fz, e, hB, hg', fun i x hx => ?_⟩
    have k : ∀ j, w'.cell? ⟨g, j, none⟩ = w.cell? ⟨g, j, none⟩ := fun j => by rw [World.cell?, World.cell?, hg, hg']
    rw [k, k]
    exact hc i x hx
theorem LtR.lts {w : World} {B : Nat} {A : Option Addr} {L : List Lt} (h : LtR w B A L) : Lts w w.heap.size A L := fun h0 => by
  rcases h with rfl | ⟨g, off, cs, fz, e, hB, hg, hc⟩
  · simp at h0
  · exact ⟨g, off, e, (Array.getElem?_eq_some_iff.1 hg).1, hc⟩
/-- what rising leaves: lots whose goods are among some, no more of them than so many -/
def RiP (M : Nat) (G : ByteArray → Prop) (w : World) (e : Ending) (w' : World) : Prop := ∃ A n c L, e = .returned (.slice A n c) ∧ n = L.length ∧ LtR w' w.heap.size A L ∧ L.length ≤ M ∧ (∀ x ∈ L, G x.g ∧ -9223372036854775808 ≤ x.c ∧ x.c ≤ 9223372036854775807) ∧ Below w.heap.size w w'
theorem holds_row {w : World} {base g cap : Nat} {L : List Lt} (h : Lw w base (.slice (some ⟨g, 0, none⟩) L.length cap) L) : HoldsK encLt 2 w g 0 L.toArray := by
  have hcell : ∀ j, j < L.length * 2 → w.cell? ⟨g, j, none⟩ = (lcs L)[j]? := fun j hj => by
    have := World.ownsRow.cellAt h j hj
    exact this
  intro j hj
  have hsz : (flatK encLt 2 L.toArray).size = L.length * 2 := by simp [flatK]
  rw [hsz] at hj
  have hi : j / 2 < L.length := by omega
  have hm : j % 2 < 2 := Nat.mod_lt _ (by omega)
  have hat := lcs_at L (j / 2) _ (List.getElem?_eq_getElem hi) (j % 2) hm
  rw [show j / 2 * 2 + j % 2 = j by omega] at hat
  refine ⟨?_, ?_⟩
  · rw [Nat.zero_add, hcell j hj, hat]
    have e : (flatK encLt 2 L.toArray)[j]! = (encLt L[j / 2])[j % 2]! := by
      simp only [flatK]
      rw [Array.getElem!_eq_getD, Array.getD_eq_getD_getElem?, Array.getElem?_map, Array.getElem?_range, if_pos (by simpa using hj)]
      simp only [Option.map_some, Option.getD_some]
      congr 2
      simp [hi]
    rw [e]
    show (lc L[j / 2])[j % 2]? = some (id (encLt L[j / 2])[j % 2]!)
    have e2 : j % 2 = 0 ∨ j % 2 = 1 := by omega
    rcases e2 with e2 | e2 <;> rw [e2] <;> rfl
  · rw [Nat.zero_add]
    exact World.ownsRow.frozenAt h j
theorem perm_mem {d d' : Array Lt} (h : PermIn 0 d.size d d') : d'.size = d.size ∧ ∀ x ∈ d'.toList, x ∈ d.toList := by
  obtain ⟨h1, _, h3⟩ := h
  refine ⟨h1, fun x hx => ?_⟩
  have e1 : (d'.extract 0 d.size).toList = d'.toList := by rw [← h1]; simp
  have e2 : (d.extract 0 d.size).toList = d.toList := by simp
  rw [e1, e2] at h3
  exact h3.mem_iff.1 hx
/-- what the sort of an own row leaves -/
theorem sort_any (w : World) (base : Nat) (A : Option Addr) (c : Nat) (L : List Lt) (h : Lw w base (.slice A L.length c) L) (hb : base ≤ w.heap.size) (hl : L.length ≤ 100000000) :
    Calls Tryz.prog 166 #[.slice A L.length c, .func (.func 167) #[] #[]] w fun e w' => e = .returned (.tuple #[]) ∧ (∃ L', L'.length = L.length ∧ (∀ x ∈ L', x ∈ L) ∧ LtR w' base A L') ∧ Below base w w' := by
  have eg : ∀ args w, (callFunc 167 args).run Tryz.prog w = .ok (.enter 167 args) w := enters_of Tryz.func167 (by kernel_rfl) rfl
  by_cases h0 : L.length = 0
  · have e : L = [] := List.length_eq_zero_iff.1 h0
    rw [h0]
    refine (AnyF.slices_SortFunc_none { Tryz.sortLots with } A c _ w).mono ?_
    rintro e' w' ⟨rfl, rfl⟩
    exact ⟨rfl, ⟨[], (by simp), fun x hx => (by cases hx), .inl rfl⟩, Below.refl _ _⟩
  · rcases h.2 with ⟨h1, h2⟩ | ⟨g, cap, cur, h1, h2, h3, h4⟩
    · omega
    · injection h1 with h1 _ h1c
      subst h1 h1c
      have hlt := (Array.getElem?_eq_some_iff.1 h3).1
      have hcon := AnyQ.slices_SortFunc Tryz.sortLots 2 Tryz.isAgg123 Tryz.sizeOf123 encLt (fun _ => rfl) (fun x v hv => by simp [encLt] at hv; rcases hv with rfl | rfl <;> rfl) cmpLt swoLt 167 #[] g 0 c L.toArray w eg (cmpLays_lt g 0 _ w) (holds_row h) hlt (by simp; omega)
      have hsz : L.toArray.size = L.length := by simp
      rw [hsz] at hcon
      refine Calls.mono hcon ?_
      rintro e' w' ⟨rfl, d', n, os, hp, _, rfl⟩
      rw [← hsz] at hp
      obtain ⟨hs1, hs2⟩ := perm_mem hp
      refine ⟨rfl, ⟨d'.toList, by simpa using hs1, fun x hx => by simpa using hs2 x hx, .inr ?_⟩, sorted_below w base g 0 n d' os hlt h2⟩
      obtain ⟨g', off', e1, _, hc⟩ := sorted_lts w g 0 n L.toArray d' os hlt (holds_row h) hs1 (by rw [Array.length_toList, hs1]; simp; omega)
      injection e1 with e1
      injection e1 with e1 e1'
      subst e1 e1'
      obtain ⟨cs', hcs'⟩ := sorted_type w g 0 n d' os hlt h3
      exact ⟨g, 0, cs', _, rfl, h2, hcs', hc⟩
theorem wf_cnt {a : Int} (h : cntE.ok a) : -9223372036854775808 ≤ a ∧ a ≤ 9223372036854775807 := by
  have h' : (Lit.int .i64 a).wf = true := h
  simp [Lit.wf, IntKind.min, IntKind.max, IntKind.signed, IntKind.bits] at h'
  omega
section
variable (w : World) {ops : Array Oper} {rest : List Oper} {o : Oper} {a : Act} {Q : Exit → Act → World → Prop}
theorem wpList_next_cnt (hg : o.guard = none) (it : Operand) (hop : o.op = Op.next it false) (b r n : Nat) (G : ByteArray → Option Int) (lf : ByteArray → Bool) (cnt : Nat)
    (hit : a.eval it = .pointer (some ⟨r, 0, none⟩)) (h : Rn' curC cntE w b r n G lf cnt)
    (hDone : (∀ x, x.size ≤ maxLen → lf x = false) → wpList Tryz.prog ops Q rest (a.put o.dst (.tuple #[.bool false])) w)
    (hMore : ∀ (x : ByteArray) (v : Int) (w' : World) (cnt' : Nat), x.size ≤ maxLen → lf x = true → G x = some v → cntE.ok v → Rn' curC cntE w' b r n G (fun z => lf z && !decide (z = x)) cnt' → cnt' < cnt →
      w.grownBy w' (some r) → w'.heap.size = w.heap.size → (Instr.entry (.pointer (some ⟨r, 0, none⟩))).run Tryz.prog w' = .ok (.tuple #[.string x, .int .i64 v]) w' → wpList Tryz.prog ops Q rest (a.put o.dst (.tuple #[.bool true, .string x, .int .i64 v])) w') :
    wpList Tryz.prog ops Q (o :: rest) a w :=
  wpList_next_mp w hg it hop b r n G lf cnt hit h hDone fun x v w' cnt' h1 h2 h3 h4 h5 h6 h7 h8 h9 => hMore x v w' cnt' h1 h2 h3 h4 h5 h6 h7 h8 h9
end
def OkL (GP : ByteArray → Prop) (L : List Lt) : Prop := ∀ x ∈ L, GP x.g ∧ -9223372036854775808 ≤ x.c ∧ x.c ≤ 9223372036854775807
set_option maxHeartbeats 4000000 in
theorem rising_any (mb n : Nat) (G : ByteArray → Option Int) (GP : ByteArray → Prop) (w : World) (hM : Mp curC cntE w mb n G) (hG : ∀ x v, G x = some v → GP x) (hn : n ≤ 100000000) :
    Calls Tryz.prog 137 #[.map (some mb)] w fun e w' => RiP n GP w e w' := by
  have hmb := hM.lt
  have HG := Lib.hid hG
  have HSort : Hid (∀ (W : World) (A : Option Addr) (c : Nat) (L : List Lt), Lw W (w.heap.size + 1) (.slice A L.length c) L → w.heap.size + 1 ≤ W.heap.size → L.length ≤ n → OkL GP L → Below w.heap.size w W →
      Calls Tryz.prog 166 #[.slice A L.length c, .func (.func 167) #[] #[]] W fun e w' => e = .returned (.tuple #[]) ∧ RiP n GP w (.returned (.slice A L.length c)) w') := Lib.hid (fun W A c L hL hs hl hok hb => by
    refine (sort_any W (w.heap.size + 1) A c L hL hs (by omega)).mono ?_
    rintro e w' ⟨rfl, ⟨L', h1, h2, h3⟩, h4⟩
    refine ⟨rfl, A, L.length, c, L', rfl, h1.symm, ?_, by omega, fun x hx => hok x (h2 x hx), hb.trans (h4.mono (by omega))⟩
    rcases h3 with h3 | ⟨g, off, cs, fz, e, hB, r⟩
    · exact .inl h3
    · exact .inr ⟨g, off, cs, fz, e, by omega, r⟩)
  clear hG
  generalize RiP n GP w = CP at *
  go_enter Tryz.func137, Tryz.ntmps137
  go_wp2_with (first
    | (at_range; refine wpList_range_mp _ rfl _ 171 rfl 3 Tryz.underlying171 mb n G rfl hM ?_; intro w4 hrg4 hg4 hs4)
    | go_in)
  try go_frame
  obtain ⟨cnt4, hrg4⟩ := hrg4
  have hc4 := cntR_le hrg4
  have HB4 : Hid (Below w.heap.size w w4) := Lib.hid ((Below.refl _ _).grown hg4 (Nat.le_refl _) (fun j hj => by cases hj))
  go_loopw [3] (fun v wr => ∃ lf cnt A c L, Rn' curC cntE wr mb w.heap.size n G lf cnt ∧ L.length + cnt ≤ n ∧ v = .slice A L.length c ∧ Hid (Lw wr (w.heap.size + 1) (.slice A L.length c) L) ∧ Hid (OkL GP L) ∧ Hid (Below w.heap.size w wr)) (fun _ wr => wr.rangeLeft mb w.heap.size)
  case atStart => exact ⟨_, cnt4, none, 0, [], hrg4, by simpa using hc4, rfl, Lib.hid (Lw.nil _ _), Lib.hid (fun x hx => by cases hx), HB4⟩
  case round =>
    clear hM hg4 hs4 hrg4 HB4 hc4
    obtain ⟨lf, cnt, A, c, L, hrg, hcn, rfl, HL, HOk, HB⟩ := hrel
    have hrs := hrg.lt
    go_wp2_with (first
      | (at_next; refine wpList_next_cnt _ rfl _ rfl mb w.heap.size n G lf cnt rfl hrg ?_ ?_)
      | go_in)
    · intro hdone
      have HS := Lib.hid (HSort.out wr A c L HL.out (by omega) (by omega) HOk.out HB.out)
      clear hdone hrg
      go_wp2_with (first
        | (go_at_call 166; (with_reducible refine HS.out.mono ?_); rintro e w5 ⟨rfl, hF⟩; have HF := Lib.hid hF; clear hF)
        | fail)
      first
        | exact HF.out
        | (go_ret; exact HF.out)
    · intro x v w7 cnt7 hx hlx hGx hvo hrg7 hlt7 hg7 hs7 hen
      have Hlft := Lib.hid hrg.left_eq
      have hne : ∀ q, (Value.slice A L.length c).ownBlock = some q → w.heap.size + 1 ≤ q := fun q hq => (HL.out.lt hq).1
      have HL7 : Lw w7 (w.heap.size + 1) (.slice A L.length c) L := HL.out.keep fun q hq => hg7.block q (HL.out.lt hq).2 (fun e => by have := hne q hq; injection e with e; omega)
      have hB7 : Below w.heap.size w w7 := HB.out.grown hg7 (by omega) (fun j hj => by injection hj with hj; omega)
      have hba : Below w7.heap.size w7 (w7.alloc (.cells #[.string x, .int .i64 v] 123)) := (Below.refl _ _).alloc (Nat.le_refl _) _
      have hsa : (w7.alloc (.cells #[.string x, .int .i64 v] 123)).heap.size = w7.heap.size + 1 := by simp
      obtain ⟨v8, w8, hrn, hL8, hg8, _⟩ := app_lots (cap := 1) 40 (HL7.below hba) (one_lot w7 ⟨x, v⟩) (by simp; omega) (by omega)
      obtain ⟨A8, c8, rfl, _⟩ := hL8.form
      have hlen : (L ++ [(⟨x, v⟩ : Lt)]).length = L.length + 1 := by simp
      have hrg8 := (hrg7.alloc (.cells #[.string x, .int .i64 v] 123)).kept hg8 (fun e => by have := hne mb e.symm; omega) (fun e => by have := hne _ e.symm; omega)
      have HL8 := Lib.hid hL8
      have HOk8 : Hid (OkL GP (L ++ [(⟨x, v⟩ : Lt)])) := Lib.hid (fun y hy => by
        rcases List.mem_append.1 hy with hy | hy
        · exact HOk.out y hy
        · have := List.mem_singleton.1 hy
          subst this
          exact ⟨HG.out x v hGx, wf_cnt hvo⟩)
      have HB8 : Hid (Below w.heap.size w w8) := Lib.hid ((hB7.trans (hba.mono hB7.size)).grown hg8 (by have := hB7.size; omega) (fun j hj => by have := hne j hj; omega))
      have hs8 : w8.rangeLeft mb w.heap.size = cnt7 := hrg8.left_eq
      clear hg7 hs7 HL7 hB7 hba hsa hL8 hg8 hx hlx hGx hvo hrg hne HL HOk HB
      go_wp2_with (first
        | (at_builtin; refine Lib.wpList_append_run _ rfl _ _ _ _ rfl _ _ rfl rfl _ _ hrn ?_)
        | fail)
      go_roundw
      case rel => exact ⟨_, cnt7, A8, c8, _, hrg8, by rw [hlen]; omega, by rw [hlen], HL8, HOk8, HB8⟩
      case measure => rw [hs8, Hlft.out]; exact hlt7
/-- goods.Join -/
theorem join_any (L : List Lt) (A : Option Addr) (c B : Nat) (w : World) (hL : Lts w B A L) (hB : B ≤ w.heap.size) (hl : L.length ≤ 100000000) (hg : ∀ x ∈ L, x.g.size ≤ 1048576) :
    Calls Tryz.prog 113 #[.slice A L.length c] w fun e w' => RiP L.length (fun g => g.size ≤ 1048576) w e w' := by
  have HC := Lib.hid (counts_any L A c B w hL hB hl hg)
  have HR : Hid (∀ mb G W, Mp curC cntE W mb L.length G → KeysIn G L → Below w.heap.size w W → Calls Tryz.prog 137 #[.map (some mb)] W fun e w' => (∃ v, e = .returned v) ∧ RiP L.length (fun g => g.size ≤ 1048576) w e w') := Lib.hid (fun mb G W hM hK hb => by
    refine (rising_any mb L.length G (fun g => g.size ≤ 1048576) W hM (fun x v h => by obtain ⟨y, hy, rfl⟩ := hK x v h; exact hg y hy) hl).mono ?_
    rintro e w' ⟨A', n, c', L', rfl, h1, h2, h3, h4, h5⟩
    refine ⟨⟨_, rfl⟩, A', n, c', L', rfl, h1, ?_, h3, h4, hb.trans (h5.mono hb.size)⟩
    have hs := hb.size
    rcases h2 with h2 | ⟨g, off, cs, fz, e, hB', r⟩
    · exact .inl h2
    · exact .inr ⟨g, off, cs, fz, e, by omega, r⟩)
  clear hL hg
  generalize RiP L.length (fun g => g.size ≤ 1048576) w = CP at *
  go_enter Tryz.func113, Tryz.ntmps113
  go_wp2_with (first
    | (go_at_call 138; (with_reducible refine HC.out.mono ?_); rintro e w2 ⟨mb, G, rfl, h1, h2, h3, h4⟩; have HR2 := Lib.hid (HR.out mb G w2 h1 h2 h4); clear h1 h2 h3 h4 HR)
    | (go_at_call 137; (with_reducible refine HR2.out.mono ?_); rintro e w3 ⟨⟨v, rfl⟩, hF⟩; have HF := Lib.hid hF; clear hF)
    | fail)
  first
    | exact HF.out
    | (go_ret; exact HF.out)
end Go.Proofs.YtbkffdfboloogaaGreatDoor
namespace Go.Proofs.YtbkffdfboloogaaGreatDoor
open Go.RowKit Go.Maps Go.Lib
set_option linter.unusedVariables false
set_option maxRecDepth 100000

theorem lotsOf_take (L : List Bx) (k : Nat) (h : k < L.length) : lotsOf (L.take (k + 1)) = lotsOf (L.take k) ++ L[k].l := by
  unfold lotsOf
  rw [← List.take_append_getElem h, List.flatMap_append]
  simp
theorem lotsOf_take_le (L : List Bx) : ∀ k, (lotsOf (L.take k)).length ≤ (lotsOf L).length := by
  intro k
  have h : lotsOf L = lotsOf (L.take k) ++ lotsOf (L.drop k) := by
    unfold lotsOf
    rw [← List.flatMap_append, List.take_append_drop]
  rw [h, List.length_append]
  omega
theorem lotsOf_take_sub (L : List Bx) (k : Nat) {x : Lt} (h : x ∈ lotsOf (L.take k)) : x ∈ lotsOf L := by
  obtain ⟨b, hb, hx⟩ := List.mem_flatMap.1 h
  exact List.mem_flatMap.2 ⟨b, List.mem_of_mem_take hb, hx⟩
theorem boxSize_any (n : Int) (w : World) : Calls Tryz.prog 84 #[.int .i64 n] w fun e w' => (∃ s : ByteArray, e = .returned (.string s) ∧ s.size ≤ 5) ∧ w' = w := by
  by_cases h0 : n = 0
  · subst h0
    go_enter Tryz.func84, Tryz.ntmps84
    go_wp2
    go_ret
    exact ⟨⟨_, rfl, by decide⟩, rfl⟩
  · by_cases h1 : n = 1
    · subst h1
      go_enter Tryz.func84, Tryz.ntmps84
      go_wp2
      go_ret
      exact ⟨⟨_, rfl, by decide⟩, rfl⟩
    · have q0 : (n == 0) = false := beq_false_of_ne h0
      have q1 : (n == 1) = false := beq_false_of_ne h1
      go_enter Tryz.func84, Tryz.ntmps84
      go_wp2
      go_ret
      exact ⟨⟨_, rfl, by decide⟩, rfl⟩
set_option maxHeartbeats 4000000 in
theorem content_any (L : List Bx) (A : Option Addr) (c B : Nat) (w : World) (hL : Bxs w B A L) (hB : B ≤ w.heap.size) (hok : BxsOk L) :
    Calls Tryz.prog 85 #[.slice A L.length c] w fun e w' => RiP (lotsOf L).length (fun g => g.size ≤ 1048576) w e w' := by
  have HL := Lib.hid (hL.more hB)
  have hll := hok.lots.1
  have hfew := hok.few
  have Htl := Lib.hid (lotsOf_take_le L)
  have HJ : Hid (∀ (W : World) (A' : Option Addr) (c' : Nat), Lw W w.heap.size (.slice A' (lotsOf L).length c') (lotsOf L) → Below w.heap.size w W → Calls Tryz.prog 113 #[.slice A' (lotsOf L).length c'] W fun e w' => (∃ v, e = .returned v) ∧ RiP (lotsOf L).length (fun g => g.size ≤ 1048576) w e w') := Lib.hid (fun W A' c' h hb => by
    refine (join_any (lotsOf L) A' c' W.heap.size W h.lts (Nat.le_refl _) (by omega) (fun x hx => (hok.lots.2 x hx).1)).mono ?_
    rintro e w' ⟨A2, n, c2, L', rfl, h1, h2, h3, h4, h5⟩
    refine ⟨⟨_, rfl⟩, A2, n, c2, L', rfl, h1, ?_, h3, h4, hb.trans (h5.mono hb.size)⟩
    have hs := hb.size
    rcases h2 with h2 | ⟨g, off, cs, fz, e, hB', r⟩
    · exact .inl h2
    · exact .inr ⟨g, off, cs, fz, e, by omega, r⟩)
  clear hL hok
  generalize RiP (lotsOf L).length (fun g => g.size ≤ 1048576) w = CP at *
  go_enter Tryz.func85, Tryz.ntmps85
  go_wp2_with fail
  go_loopw [3, 8] (fun v i wr => ∃ (k : Nat) (A' : Option Addr) (n' c' : Nat), k ≤ L.length ∧ i = .int .i64 (k : Int) ∧ v = .slice A' n' c' ∧ n' = (lotsOf (L.take k)).length ∧ Hid (Lw wr w.heap.size (.slice A' n' c') (lotsOf (L.take k))) ∧ Hid (Below w.heap.size w wr)) (fun _ i _ => L.length - (RowKit.intOf i).toNat)
  case atStart => exact ⟨0, none, 0, 0, Nat.zero_le _, rfl, rfl, rfl, Lib.hid (Lw.nil _ _), Lib.hid (Below.refl _ _)⟩
  case round =>
    obtain ⟨k, A', n', c', hk, rfl, rfl, hn', HR, HB⟩ := hrel
    have hsz := HB.out.size
    by_cases hlt : k < L.length
    · have b1 : (k : Int) < (L.length : Int) := by omega
      have b0 : (0 : Int) ≤ (k : Int) := by omega
      obtain ⟨g, off, A2, c2, rfl, hgb, h3⟩ := (HL.out.kept HB.out).at_ hlt
      have hlots := h3.lots
      have hnil := h3.nil
      obtain ⟨c0, c1, c2', _, _⟩ := h3
      have hba : Below wr.heap.size wr (wr.alloc (.cells #[.string L[k].m, .int .i64 L[k].k, .slice A2 L[k].l.length c2] 42)) := (Below.refl _ _).alloc (Nat.le_refl _) _
      have hl1 := Htl.out (k + 1)
      have hst := lotsOf_take L k hlt
      obtain ⟨v8, w8, hrn, hL8, hg8, _⟩ := app_anyLots 40 (HR.out.below hba) (hlots.kept (hba.mono hsz)) hnil (by rw [← List.length_append, ← hst]; omega) (by have := hba.size; omega)
      rw [← hst] at hL8
      obtain ⟨A8, c8, rfl, _⟩ := hL8.form
      have HL8 := Lib.hid hL8
      have HB8 : Hid (Below w.heap.size w w8) := Lib.hid ((HB.out.trans (hba.mono hsz)).grown hg8 (by have := hba.size; omega) (fun j hj => (HR.out.lt hj).1))
      obtain ⟨b, hb⟩ : ∃ b, L[k] = b := ⟨_, rfl⟩
      rw [hb] at c0 c1 c2' hrn
      clear hlots hnil hba hl1 hst hL8 hg8 hb HR HB hn'
      generalize b.l.length = bl at *
      generalize b.m = bm at *
      generalize b.k = bk at *
      go_wp2_with (first
        | (at_builtin; refine Lib.wpList_append_run _ rfl _ _ _ _ rfl _ _ rfl rfl _ _ hrn ?_)
        | fail)
      go_roundw
      case rel => exact ⟨k + 1, A8, _, c8, by omega, by go_num, rfl, rfl, HL8, HB8⟩
      case measure => simp [RowKit.intOf]; omega
    · have b1 : ¬ (k : Int) < (L.length : Int) := by omega
      have ht : L.take k = L := List.take_of_length_le (by omega)
      have HL8 : Hid (Lw wr w.heap.size (.slice A' (lotsOf L).length c') (lotsOf L)) := Lib.hid (by
        have := HR.out
        rw [hn', ht] at this
        exact this)
      have hn2 : n' = (lotsOf L).length := by rw [hn', ht]
      have HJ2 := Lib.hid (HJ.out wr A' c' HL8.out HB.out)
      clear hn' HR HL8 HJ ht
      subst hn2
      go_wp2_with (first
        | (go_at_call 113; (with_reducible refine HJ2.out.mono ?_); rintro e w5 ⟨⟨v, rfl⟩, hF⟩; have HF := Lib.hid hF; clear hF)
        | fail)
      first
        | exact HF.out
        | (go_ret; exact HF.out)
end Go.Proofs.YtbkffdfboloogaaGreatDoor
