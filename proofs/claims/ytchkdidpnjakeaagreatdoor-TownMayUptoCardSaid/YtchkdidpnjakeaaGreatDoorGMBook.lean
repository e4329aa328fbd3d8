/- A book over a store without writes is opened. Ends of links that sent and got nothing. A desk whose book has no records: it is quiet; its ends are sure. -/
import Derived.Test.YtchkdidpnjakeaaGreatDoorGMMach
import Derived.Laws.MakeOwn
import Derived.Test.YtchkdidpnjakeaaGreatDoorGBNew3
import Derived.Test.YtchkdidpnjakeaaGreatDoorGBLz
import Derived.BigQuiet
import Derived.Test.YtchkdidpnjakeaaGreatDoorGMClone
import Derived.Test.YtchkdidpnjakeaaGreatDoorGMDay
import Derived.OwnWalk
namespace Go.Proofs.YtchkdidpnjakeaaGreatDoor
open Go.RowKit Go.Maps Go.Lib
set_option linter.unusedVariables false
set_option maxRecDepth 100000

theorem follow_m (a : ByteArray) (w : World) (ha : a.size ≤ 1000) : Calls Tryz.prog 161 #[.string a] w fun e w' => ∃ v, e = .returned v ∧ Below w.heap.size w w' := by
  have H1 := Lib.hid (fun X => linked_m a X ha)
  go_enter Tryz.func161, Tryz.ntmps161
  go_wp2_with fail
  refine (H1.out _).mono ?_
  rintro e w2 ⟨s, rfl, hb⟩
  have HB := Lib.hid (((Below.refl w.heap.size w).alloc (Nat.le_refl _) (.cells #[.string a] 9)).trans (hb.mono (by simp)))
  have hz : w.heap.size ≤ w2.heap.size := HB.out.size
  clear hb
  go_wp2_with fail
  go_ret
  refine ⟨_, rfl, ?_⟩
  exact (HB.out.alloc hz _).alloc (by simp; omega) _
set_option maxHeartbeats 1000000 in
theorem read_m {w : World} {s : Nat} (hs : StoreAt w s) (a : ByteArray) (ha : nameB a.data.toList = true) (sa : a.size ≤ 1000) :
    Calls Tryz.prog 134 #[.pointer (some ⟨s, 0, none⟩), .string a] w fun e w' => ∃ b, e = .returned (.tuple #[.pointer (some ⟨b, 0, none⟩), .int .i64 0]) ∧ BookAt w' s b ∧ w.heap.size ≤ b ∧ Below w.heap.size w w' := by
  have H1 := Lib.hid (markName_any a w (by unfold maxLen; omega))
  rw [ha] at H1
  have H2 := Lib.hid (down_m hs)
  have H3 := Lib.hid (linked_m a w sa)
  have H4 := Lib.hid (fun X => follow_m a X sa)
  have HS := Lib.hid hs
  go_enter Tryz.func134, Tryz.ntmps134
  go_wp2_with (first
    | (go_at_call 52; (with_reducible refine H1.out.mono ?_); rintro e w' ⟨rfl, h⟩; subst h)
    | (go_at_call 159; (with_reducible refine H2.out.mono ?_); rintro e w' ⟨rfl, h⟩; subst h)
    | fail)
  rename World => w0
  refine H3.out.mono ?_
  rintro e w2 ⟨l, rfl, hb2⟩
  have HB2 := Lib.hid hb2
  have HS2 := Lib.hid (HS.out.below hb2)
  clear hb2
  go_wp2_with fail
  obtain ⟨W, hW⟩ : ∃ W, W = w2.alloc (.cells #[.pointer (some ⟨s, 0, none⟩), .string a, .string l, .slice none 0 0] 169) := ⟨_, rfl⟩
  have hbW : Below w2.heap.size w2 W := by rw [hW]; exact (Below.refl _ _).alloc (Nat.le_refl _) _
  have hst : W.heap[w2.heap.size]? = some (.cells #[.pointer (some ⟨s, 0, none⟩), .string a, .string l, .slice none 0 0] 169 (0, 0)) := by rw [hW]; exact heap_alloc_new _ _
  have HSW := Lib.hid (HS2.out.below hbW)
  have HBk := Lib.hid (show BookAt W s w2.heap.size from ⟨a, l, HSW.out, hst⟩)
  have HBW := Lib.hid (HB2.out.trans (hbW.mono HB2.out.size))
  rw [← hW]
  clear hW hbW hst
  refine (H4.out W).mono ?_
  rintro e w3 ⟨v, rfl, hb3⟩
  have H5 := Lib.hid (storeLen_m (HSW.out.below hb3))
  have HBk3 := Lib.hid (HBk.out.below hb3)
  have HB3 := Lib.hid (HBW.out.trans (hb3.mono HBW.out.size))
  have hz := HB2.out.size
  clear hb3
  go_wp2_with (first
    | (go_at_call 162; (with_reducible refine H5.out.mono ?_); rintro e w' ⟨rfl, h⟩; subst h)
    | fail)
  rename World => wz
  go_loopw [33] (fun i wr => i = .int .i64 0 ∧ wr = wz) (fun _ _ => 0)
  case atStart => exact ⟨rfl, rfl⟩
  case round =>
    obtain ⟨rfl, rfl⟩ := hrel
    go_wp2_with fail
    go_ret2
    exact ⟨_, rfl, HBk3.out, hz, HB3.out⟩
set_option maxHeartbeats 1000000 in
theorem bookOpen_m {w : World} {s : Nat} (hs : StoreAt w s) (a : ByteArray) (ha : nameB a.data.toList = true) (sa : a.size ≤ 1000) :
    Calls Tryz.prog 99 #[.pointer (some ⟨s, 0, none⟩), .string a] w fun e w' => ∃ b, e = .returned (.tuple #[.pointer (some ⟨b, 0, none⟩), .int .i64 0]) ∧ BookAt w' s b ∧ w.heap.size ≤ b ∧ Below w.heap.size w w' := by
  have H1 := Lib.hid (read_m hs a ha sa)
  go_enter Tryz.func99, Tryz.ntmps99
  go_wp2_with fail
  refine H1.out.mono ?_
  rintro e w2 ⟨b, rfl, h1, h2, h3⟩
  go_wp2_with fail
  go_ret2
  exact ⟨_, rfl, h1, h2, h3⟩
theorem infoFs : (Tryz.prog.info? 129).map (fun i => (i.zero, i.size, i.bytes)) = some (some (.slice none 0 0), 1, 24) := by kernel_rfl
set_option maxHeartbeats 1000000 in
/-- all records of a book without any -/
theorem bookAll_m {w : World} {s q : Nat} (h : BookAt w s q) : Calls Tryz.prog 100 #[.pointer (some ⟨q, 0, none⟩)] w fun e w' => ∃ A c, e = .returned (.slice A 0 c) ∧ Below w.heap.size w w' := by
  obtain ⟨a, l, hs, h⟩ := h
  have c3 : w.cell? ⟨q, 3, none⟩ = some (.slice none 0 0) := by simp [World.cell?, h]
  have hl := (Array.getElem?_eq_some_iff.1 h).1
  obtain ⟨i0, hi0, hz0, hz1, hz2⟩ := info_parts infoFs
  obtain ⟨w1, hmk, _, hgr⟩ := run_make_own (P := Tryz.prog) w w.heap.size 152 129 i0 _ 1 Tryz.underlying152 hi0 hz0 hz1 .i64 .i64 0 (by omega) (by decide) (Nat.le_refl _)
  have hmk' : (Instr.makeSlice 152 (.int .i64 0) (.int .i64 0)).run Tryz.prog w = .ok (.slice (some ⟨w.heap.size, 0, none⟩) 0 0) w1 := hmk
  have HB := Lib.hid ((Below.refl w.heap.size w).grown hgr (Nat.le_refl _) (by simp))
  have c3' : w1.cell? ⟨q, 3, none⟩ = some (.slice none 0 0) := (HB.out.cell (p := ⟨q, 3, none⟩) hl).trans c3
  have hl1 : q < w1.heap.size := Nat.lt_of_lt_of_le hl HB.out.size
  clear h hs hmk hgr hi0 hz0 hz1 hz2
  go_enter Tryz.func100, Tryz.ntmps100
  go_wp2_with fail
  go_loopw [17] (fun i wr => i = .int .i64 0 ∧ wr = w1) (fun _ _ => 0)
  case atStart => exact ⟨rfl, rfl⟩
  case round =>
    obtain ⟨rfl, rfl⟩ := hrel
    go_wp2_with fail
    go_ret
    exact ⟨_, _, rfl, HB.out⟩
end Go.Proofs.YtchkdidpnjakeaaGreatDoor
namespace Go.Proofs.YtchkdidpnjakeaaGreatDoor
open Go.RowKit Go.Maps Go.Lib
set_option linter.unusedVariables false
set_option maxRecDepth 100000

/-- an end in block q that sent and got nothing -/
def EndAt (w : World) (q : Nat) : Prop := ∃ (a b : ByteArray) (m : Nat), w.heap[q]? = some (.cells #[.string a, .string b, .slice none 0 0, .int .i64 0, .int .i64 0, .int .i64 0, .map (some m), .bool false] 173 (0, 0))
theorem EndAt.lt {w : World} {q : Nat} (h : EndAt w q) : q < w.heap.size := by
  obtain ⟨a, b, m, h⟩ := h
  exact (Array.getElem?_eq_some_iff.1 h).1
theorem EndAt.below {w w' : World} {q : Nat} (h : EndAt w q) (hb : Below w.heap.size w w') : EndAt w' q := by
  have hl := h.lt
  obtain ⟨a, b, m, h⟩ := h
  exact ⟨a, b, m, (hb.block q hl).trans h⟩
theorem EndAt.cells {w : World} {q : Nat} (h : EndAt w q) : w.cell? ⟨q, 2, none⟩ = some (.slice none 0 0) ∧ w.cell? ⟨q, 3, none⟩ = some (.int .i64 0) ∧ w.cell? ⟨q, 4, none⟩ = some (.int .i64 0) ∧ w.cell? ⟨q, 5, none⟩ = some (.int .i64 0) := by
  obtain ⟨a, b, m, h⟩ := h
  exact ⟨by simp [World.cell?, h], by simp [World.cell?, h], by simp [World.cell?, h], by simp [World.cell?, h]⟩
theorem parties_m (a b : ByteArray) (w : World) (ha : nameB a.data.toList = true) (hb : nameB b.data.toList = true) (hab : a ≠ b) (sa : a.size ≤ maxLen) (sb : b.size ≤ maxLen) :
    Calls Tryz.prog 158 #[.string a, .string b] w fun e w' => e = .returned (.bool true) ∧ w' = w := by
  have H1 := Lib.hid (markName_any a w sa)
  have H2 := Lib.hid (markName_any b w sb)
  have hne : (a.toList == b.toList) = false := by rw [ba_beq]; simp [hab]
  rw [ha] at H1
  rw [hb] at H2
  go_enter Tryz.func158, Tryz.ntmps158
  go_wp2_with (first
    | (go_at_call 52; (with_reducible refine H1.out.mono ?_); rintro e w' ⟨rfl, rfl⟩)
    | (go_at_call 52; (with_reducible refine H2.out.mono ?_); rintro e w' ⟨rfl, rfl⟩)
    | fail)
  first
    | exact ⟨rfl, rfl⟩
    | (go_ret; exact ⟨by simp, rfl⟩)
/-- link.New -/
theorem linkNew_m (a b : ByteArray) (w : World) (ha : nameB a.data.toList = true) (hb : nameB b.data.toList = true) (hab : a ≠ b) (sa : a.size ≤ maxLen) (sb : b.size ≤ maxLen) :
    Calls Tryz.prog 133 #[.string a, .string b] w fun e w' => e = .returned (.pointer (some ⟨w.heap.size + 1, 0, none⟩)) ∧ EndAt w' (w.heap.size + 1) ∧ Below w.heap.size w w' ∧ w'.heap.size = w.heap.size + 2 := by
  have H1 := Lib.hid (parties_m a b w ha hb hab sa sb)
  have hmm := @run_makeMap Tryz.prog
  go_enter Tryz.func133, Tryz.ntmps133
  go_wp2_with (first
    | (go_at_call 158; (with_reducible refine H1.out.mono ?_); rintro e w' ⟨rfl, rfl⟩)
    | fail)
  go_ret
  have hs : (w'.alloc (.map #[] 0)).heap.size = w'.heap.size + 1 := by simp
  refine ⟨rfl, ⟨a, b, w'.heap.size, ?_⟩, ((Below.refl _ _).alloc (Nat.le_refl _) _).alloc (by simp) _, by simp⟩
  rw [← hs]
  exact heap_alloc_new _ _
set_option maxHeartbeats 1000000 in
theorem got_m {w : World} {q : Nat} (h : EndAt w q) : Calls Tryz.prog 142 #[.pointer (some ⟨q, 0, none⟩)] w fun e w' => e = .returned (.int .i64 0) ∧ w' = w := by
  obtain ⟨c2, c3, c4, c5⟩ := h.cells
  have hl := h.lt
  go_enter Tryz.func142, Tryz.ntmps142
  go_wp2_with fail
  first
    | exact ⟨rfl, rfl⟩
    | (go_ret; exact ⟨rfl, rfl⟩)
set_option maxHeartbeats 1000000 in
theorem sure_m {w : World} {q : Nat} (h : EndAt w q) : Calls Tryz.prog 141 #[.pointer (some ⟨q, 0, none⟩), .int .i64 0] w fun e w' => e = .returned (.int .i64 0) ∧ w' = w := by
  obtain ⟨c2, c3, c4, c5⟩ := h.cells
  have hl := h.lt
  go_enter Tryz.func141, Tryz.ntmps141
  go_wp2_with fail
  first
    | exact ⟨rfl, rfl⟩
    | (go_ret; exact ⟨rfl, rfl⟩)
set_option maxHeartbeats 1000000 in
theorem owns_m (w : World) : Calls Tryz.prog 115 #[.slice none 0 0] w fun e w' => e = .returned (.slice none 0 0) ∧ w' = w := by
  go_enter Tryz.func115, Tryz.ntmps115
  go_wp2_with fail
  go_loopw [3, 8] (fun o i wr => o = .slice none 0 0 ∧ i = .int .i64 0 ∧ wr = w) (fun _ _ _ => 0)
  case atStart => exact ⟨rfl, rfl, rfl⟩
  case round =>
    obtain ⟨rfl, rfl, rfl⟩ := hrel
    go_wp2_with fail
    first
      | exact ⟨rfl, rfl⟩
      | (go_ret; exact ⟨rfl, rfl⟩)
set_option maxHeartbeats 1000000 in
theorem acked_m {w : World} {q : Nat} (h : EndAt w q) : Calls Tryz.prog 116 #[.pointer (some ⟨q, 0, none⟩)] w fun e w' => e = .returned (.int .i64 0) ∧ Below w.heap.size w w' := by
  obtain ⟨c2, c3, c4, c5⟩ := h.cells
  have hl := h.lt
  go_enter Tryz.func116, Tryz.ntmps116
  go_wp2_with fail
  go_quiet (fail)
  go_wp2_with fail
  first
    | exact ⟨rfl, below_drewM (Below.refl _ _) _⟩
    | (go_ret; exact ⟨rfl, below_drewM (Below.refl _ _) _⟩)
end Go.Proofs.YtchkdidpnjakeaaGreatDoor
namespace Go.Proofs.YtchkdidpnjakeaaGreatDoor
open Go.RowKit Go.Maps Go.Lib Led
set_option linter.unusedVariables false
set_option maxRecDepth 100000

theorem owns_c (w : World) : Calls Tryz.prog 115 #[.slice none 0 0] w fun e w' => e = .returned (.slice none 0 0) ∧ Below w.heap.size w w' := (owns_m w).mono fun _ _ ⟨h1, h2⟩ => ⟨h1, h2 ▸ Below.refl _ _⟩
set_option maxHeartbeats 1000000 in
theorem parts_m {w : World} {q : Nat} (h : EndAt w q) : Calls Tryz.prog 70 #[.pointer (some ⟨q, 0, none⟩)] w fun e w' => e = .returned (.tuple #[.slice none 0 0, .int .i64 0, .int .i64 0]) ∧ Below w.heap.size w w' := by
  have HE : Hid (∀ n : WC w.heap.size w, EndAt n.w q) := Lib.hid fun n => h.below n.h
  have o2 : ∀ n : WC w.heap.size w, n.w.cell? ⟨q, 2, none⟩ = some (.slice none 0 0) := fun n => (HE.out n).cells.1
  have o4 : ∀ n : WC w.heap.size w, n.w.cell? ⟨q, 4, none⟩ = some (.int .i64 0) := fun n => (HE.out n).cells.2.2.1
  have HO := Lib.hid (fun n : WC w.heap.size w => owns_c n.w)
  have HK := Lib.hid (fun n : WC w.heap.size w => acked_m (HE.out n))
  clear h
  go_enter Tryz.func70, Tryz.ntmps70
  go_wp2_with fail
  refine wp_region_class (by kernel_rfl) (by kernel_rfl) ?_
  repeat (go_big_quiet_step (first
    | (go_at_call 115; with_reducible exact Calls.class_of (Nat.le_refl _) (HO.out _))
    | (go_at_call 116; with_reducible exact Calls.class_of (Nat.le_refl _) (HK.out _))))
  refine wpQuiet_nil ?_
  rintro w' ⟨n, rfl⟩
  have HX := Lib.hid n.h
  clear o2 o4 HO HK HE
  go_wp2_with fail
  go_ret3
  exact ⟨rfl, HX.out⟩
/-- blocks from b on stand -/
structure Kf (b : Nat) (w w' : World) : Prop where
  size : w.heap.size ≤ w'.heap.size
  same : ∀ k, b ≤ k → k < w.heap.size → w'.heap[k]? = w.heap[k]?
theorem Kf.of_below {b : Nat} {w w' : World} (h : Below w.heap.size w w') : Kf b w w' := ⟨h.size, fun k _ hk => h.block k hk⟩
theorem Kf.trans {b : Nat} {w w' w2 : World} (h : Kf b w w') (k : Kf b w' w2) : Kf b w w2 := ⟨Nat.le_trans h.size k.size, fun j h1 h2 => (k.same j h1 (Nat.lt_of_lt_of_le h2 h.size)).trans (h.same j h1 h2)⟩
/-- the ends of a desk: all others have one -/
def EdAt (w : World) (b em : Nat) (L : List ByteArray) : Prop := ∃ (n : Nat) (F : ByteArray → Option (Option Nat)), Mp curC ptE w em n F ∧ b ≤ em ∧ n ≤ 1000 ∧ ∀ o ∈ L, o.size ≤ maxLen ∧ ∃ e, F o = some (some e) ∧ EndAt w e ∧ b ≤ e
/-- a desk in block q; all its blocks lie from b on -/
structure DkAt (w : World) (b s q : Nat) (nm : ByteArray) (mv : Value) (bk em : Nat) (A : Option Addr) (c : Nat) (L : List ByteArray) : Prop where
  desk : w.heap[q]? = some (.cells #[.string nm, .pointer (some ⟨bk, 0, none⟩), mv, .slice A L.length c, .map (some em), .slice none 0 0, .int .i64 0] 124 (0, 0))
  book : BookAt w s bk
  row : Ow w b (.slice A L.length c) L
  ends : EdAt w b em L
  lo : b ≤ q ∧ b ≤ bk ∧ b ≤ s
  few : L.length ≤ 1000
section
variable {w w' : World} {b s q bk em c : Nat} {nm : ByteArray} {mv : Value} {A : Option Addr} {L : List ByteArray}
theorem EndAt.kf {e : Nat} (h : EndAt w e) (hk : Kf b w w') (hb : b ≤ e) : EndAt w' e := by
  have hl := h.lt
  obtain ⟨x, y, m, h⟩ := h
  exact ⟨x, y, m, (hk.same e hb hl).trans h⟩
theorem StoreAt.kf {e : Nat} (h : StoreAt w e) (hk : Kf b w w') (hb : b ≤ e) : StoreAt w' e := (hk.same e hb h.lt).trans h
theorem BookAt.kf (h : BookAt w s bk) (hk : Kf b w w') (hb : b ≤ bk) (hs : b ≤ s) : BookAt w' s bk := by
  have hl := h.lt
  obtain ⟨x, y, h1, h2⟩ := h
  exact ⟨x, y, h1.kf hk hs, (hk.same bk hb hl).trans h2⟩
theorem EdAt.kf (h : EdAt w b em L) (hk : Kf b w w') : EdAt w' b em L := by
  obtain ⟨n, F, h1, h2, h3, h4⟩ := h
  refine ⟨n, F, h1.of_block (hk.same em h2 h1.lt), h2, h3, fun o ho => ?_⟩
  obtain ⟨g1, e, g2, g3, g4⟩ := h4 o ho
  exact ⟨g1, e, g2, g3.kf hk g4, g4⟩
theorem DkAt.kf (h : DkAt w b s q nm mv bk em A c L) (hk : Kf b w w') : DkAt w' b s q nm mv bk em A c L :=
  ⟨(hk.same q h.lo.1 (Array.getElem?_eq_some_iff.1 h.desk).1).trans h.desk, h.book.kf hk h.lo.2.1 h.lo.2.2, h.row.keep fun k hk' => hk.same k (h.row.lt hk').1 (h.row.lt hk').2, h.ends.kf hk, h.lo, h.few⟩
theorem DkAt.below (h : DkAt w b s q nm mv bk em A c L) (hb : Below w.heap.size w w') : DkAt w' b s q nm mv bk em A c L := h.kf (Kf.of_below hb)
theorem DkAt.lt (h : DkAt w b s q nm mv bk em A c L) : q < w.heap.size := (Array.getElem?_eq_some_iff.1 h.desk).1
theorem DkAt.cells (h : DkAt w b s q nm mv bk em A c L) : w.cell? ⟨q, 1, none⟩ = some (.pointer (some ⟨bk, 0, none⟩)) ∧ w.cell? ⟨q, 3, none⟩ = some (.slice A L.length c) ∧ w.cell? ⟨q, 4, none⟩ = some (.map (some em)) := by
  have := h.desk
  exact ⟨by simp [World.cell?, this], by simp [World.cell?, this], by simp [World.cell?, this]⟩
theorem zeroEnd (w : World) : (zeroValue 126).run Tryz.prog w = .ok (ptV none) w := by kernel_rfl
theorem EdAt.look (h : EdAt w b em L) {o : ByteArray} (ho : o ∈ L) : ∃ e, EndAt w e ∧ (Instr.lookup 122 (.map (some em)) (.string o) false).run Tryz.prog w = .ok (.pointer (some ⟨e, 0, none⟩)) w := by
  obtain ⟨n, F, h1, h2, h3, h4⟩ := h
  obtain ⟨g1, e, g2, g3, g4⟩ := h4 o ho
  have h5 := h1.look Tryz.underlying122 (z := none) (zeroEnd w) trivial (x := o) (show curC.ok o from g1)
  rw [g2] at h5
  exact ⟨e, g3, h5⟩
/-- a look-up of an end, in all worlds of a class -/
theorem EdAt.lookc (h : EdAt w b em L) {o : ByteArray} (ho : o ∈ L) : ∃ e, ∀ X, Below w.heap.size w X → EndAt X e ∧ (Instr.lookup 122 (.map (some em)) (.string o) false).run Tryz.prog X = .ok (.pointer (some ⟨e, 0, none⟩)) X := by
  obtain ⟨n, F, h1, h2, h3, h4⟩ := h
  obtain ⟨g1, e, g2, g3, g4⟩ := h4 o ho
  refine ⟨e, fun X hX => ⟨g3.below hX, ?_⟩⟩
  have h5 := (h1.below hX h1.lt).look Tryz.underlying122 (z := none) (zeroEnd X) trivial (x := o) (show curC.ok o from g1)
  rw [g2] at h5
  exact h5
set_option maxHeartbeats 4000000 in
theorem sure_d (h : DkAt w b s q nm mv bk em A c L) : Calls Tryz.prog 104 #[.pointer (some ⟨q, 0, none⟩)] w fun e w' => e = .returned (.tuple #[]) ∧ Below w.heap.size w w' := by
  have HD : Hid (∀ X, Below w.heap.size w X → DkAt X b s q nm mv bk em A c L) := Lib.hid fun X hX => h.below hX
  have hlen := h.few
  have hq := h.lt
  obtain ⟨c1, c3, c4⟩ := h.cells
  have HB0 := Lib.hid (Below.refl w.heap.size w)
  clear h
  go_enter Tryz.func104, Tryz.ntmps104
  go_wp2_with fail
  clear c1 c3 c4
  go_loopw [9, 3] (fun i _ wr => ∃ k : Nat, k ≤ L.length ∧ i = .int .i64 (k : Int) ∧ Hid (Below w.heap.size w wr)) (fun i _ _ => L.length - (RowKit.intOf i).toNat)
  case atStart => exact ⟨0, Nat.zero_le _, rfl, HB0⟩
  case round =>
    clear HB0
    obtain ⟨k, hk, rfl, HB⟩ := hrel
    by_cases hlt : k < L.length
    · have b1 : (k : Int) < (L.length : Int) := by omega
      have hX := HD.out wr HB.out
      obtain ⟨x, hx⟩ : ∃ x, L[k]? = some x := ⟨L[k], List.getElem?_eq_getElem hlt⟩
      have heq : L[k] = x := (List.getElem?_eq_some_iff.1 hx).2
      obtain ⟨g, rfl, hg, hgw, hc⟩ := hX.row.at_ hlt
      rw [heq] at hc
      obtain ⟨e, he⟩ := hX.ends.lookc (List.mem_of_getElem? hx)
      have hqr := hX.lt
      obtain ⟨d1, d3, d4⟩ := hX.cells
      have o4 : ∀ n : WC wr.heap.size wr, n.w.cell? ⟨q, 4, none⟩ = some (.map (some em)) := fun n => (hX.below n.h).cells.2.2
      have r1 : ∀ n : WC wr.heap.size wr, (Instr.lookup 122 (.map (some em)) (.string x) false).run Tryz.prog n.w = .ok (.pointer (some ⟨e, 0, none⟩)) n.w := fun n => (he n.w n.h).2
      have HG : Hid (∀ n : WC wr.heap.size wr, Calls Tryz.prog 142 #[.pointer (some ⟨e, 0, none⟩)] n.w fun e w' => e = .returned (.int .i64 0) ∧ Below n.w.heap.size n.w w') := Lib.hid fun n => (got_m (he n.w n.h).1).mono fun _ _ ⟨h1, h2⟩ => ⟨h1, h2 ▸ Below.refl _ _⟩
      have HSu : Hid (∀ n : WC wr.heap.size wr, Calls Tryz.prog 141 #[.pointer (some ⟨e, 0, none⟩), .int .i64 0] n.w fun e w' => e = .returned (.int .i64 0) ∧ Below n.w.heap.size n.w w') := Lib.hid fun n => (sure_m (he n.w n.h).1).mono fun _ _ ⟨h1, h2⟩ => ⟨h1, h2 ▸ Below.refl _ _⟩
      clear hX heq hx he d1 d3
      go_wp2_with fail
      refine wp_region_class (by kernel_rfl) (by kernel_rfl) ?_
      repeat (go_big_quiet_step (first
        | (go_at_call 142; with_reducible exact Calls.class_of (Nat.le_refl _) (HG.out _))
        | (go_at_call 141; with_reducible exact Calls.class_of (Nat.le_refl _) (HSu.out _))))
      refine wpQuiet_nil ?_
      rintro w' ⟨n, rfl⟩
      have HX := Lib.hid (HB.out.trans (n.h.mono HB.out.size))
      clear o4 r1 HG HSu
      go_wp2_with fail
      go_roundw
      case rel => exact ⟨k + 1, by omega, by go_num, HX⟩
      case measure => simp [RowKit.intOf] <;> omega
    · have b1 : ¬ (k : Int) < (L.length : Int) := by omega
      go_wp2_with fail
      refine bodyPost_end (results_none rfl _ _ _) rfl ?_
      exact ⟨rfl, HB.out⟩
set_option maxHeartbeats 4000000 in
theorem quiet_d (h : DkAt w b s q nm mv bk em A c L) : Calls Tryz.prog 28 #[.pointer (some ⟨q, 0, none⟩)] w fun e w' => e = .returned (.bool true) ∧ Below w.heap.size w w' := by
  have HD : Hid (∀ X, Below w.heap.size w X → DkAt X b s q nm mv bk em A c L) := Lib.hid fun X hX => h.below hX
  have hlen := h.few
  have o1 : ∀ n : WC w.heap.size w, n.w.cell? ⟨q, 1, none⟩ = some (.pointer (some ⟨bk, 0, none⟩)) := fun n => (HD.out n.w n.h).cells.1
  have H1 : Hid (∀ n : WC w.heap.size w, Calls Tryz.prog 68 #[.pointer (some ⟨bk, 0, none⟩)] n.w fun e w' => e = .returned (.int .i64 0) ∧ Below n.w.heap.size n.w w') := Lib.hid fun n => (bookLasting_m (HD.out n.w n.h).book).mono fun _ _ ⟨h1, h2⟩ => ⟨h1, h2 ▸ Below.refl _ _⟩
  have H2 : Hid (∀ n : WC w.heap.size w, Calls Tryz.prog 69 #[.pointer (some ⟨bk, 0, none⟩)] n.w fun e w' => e = .returned (.int .i64 0) ∧ Below n.w.heap.size n.w w') := Lib.hid fun n => (bookLen_m (HD.out n.w n.h).book).mono fun _ _ ⟨h1, h2⟩ => ⟨h1, h2 ▸ Below.refl _ _⟩
  clear h
  go_enter Tryz.func28, Tryz.ntmps28
  go_wp2_with fail
  refine wp_region_class (by kernel_rfl) (by kernel_rfl) ?_
  repeat (go_big_quiet_step (first
    | (go_at_call 68; with_reducible exact Calls.class_of (Nat.le_refl _) (H1.out _))
    | (go_at_call 69; with_reducible exact Calls.class_of (Nat.le_refl _) (H2.out _))))
  refine wpQuiet_nil ?_
  rintro w' ⟨n, rfl⟩
  have HB0 := Lib.hid n.h
  clear o1 H1 H2
  generalize n.w = w3 at *
  obtain ⟨d1, d3, d4⟩ := (HD.out w3 HB0.out).cells
  have hq3 := (HD.out w3 HB0.out).lt
  go_wp2_with fail
  clear d1 d3 d4 hq3
  go_loopw [24, 4, 5, 6, 7] (fun i _ _ _ _ wr => ∃ k : Nat, k ≤ L.length ∧ i = .int .i64 (k : Int) ∧ Hid (Below w.heap.size w wr)) (fun i _ _ _ _ _ => L.length - (RowKit.intOf i).toNat)
  case atStart => exact ⟨0, Nat.zero_le _, rfl, HB0⟩
  case round =>
    clear HB0
    obtain ⟨k, hk, rfl, HB⟩ := hrel
    by_cases hlt : k < L.length
    · have b1 : (k : Int) < (L.length : Int) := by omega
      have hX := HD.out wr HB.out
      obtain ⟨x, hx⟩ : ∃ x, L[k]? = some x := ⟨L[k], List.getElem?_eq_getElem hlt⟩
      have heq : L[k] = x := (List.getElem?_eq_some_iff.1 hx).2
      obtain ⟨g, rfl, hg, hgw, hc⟩ := hX.row.at_ hlt
      rw [heq] at hc
      obtain ⟨e, he, r1⟩ := hX.ends.look (List.mem_of_getElem? hx)
      have hqr := hX.lt
      obtain ⟨d1, d3, d4⟩ := hX.cells
      have HP := Lib.hid (parts_m he)
      clear hX heq hx he d1 d3
      go_wp2_with fail
      refine HP.out.mono ?_
      rintro e w4 ⟨rfl, hb⟩
      have HX := Lib.hid (HB.out.trans (hb.mono HB.out.size))
      clear hb HP d4 r1 hc
      go_wp2_with fail
      go_roundw
      case rel => exact ⟨k + 1, by omega, by go_num, HX⟩
      case measure => simp [RowKit.intOf] <;> omega
    · have b1 : ¬ (k : Int) < (L.length : Int) := by omega
      go_wp2_with fail
      first
        | exact ⟨rfl, HB.out⟩
        | (go_ret; exact ⟨rfl, HB.out⟩)
end
end Go.Proofs.YtchkdidpnjakeaaGreatDoor
