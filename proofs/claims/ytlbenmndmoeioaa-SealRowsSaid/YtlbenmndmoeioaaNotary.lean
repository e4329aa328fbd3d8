/- Notary.Sign: what it does to the notes. -/
import Derived.Test.YtlbenmndmoeioaaSign
namespace Go.Proofs.Ytlbenmndmoeioaa
open Go.RowKit Go.Maps

def okN (x : Nt) : Bool := nameB x.1.data.toList && decide (x.2.size ≤ 4096)
def putN (L : List Nt) (x : Nt) : List Nt := if okN x then (if hasN L x then L else L ++ [x]) else L
def sgnN (x : Nt) : ByteArray := if okN x then signB x.1 x.2 else ⟨#[]⟩

theorem Ny.cell0 {w : World} {p b : Nat} {L : List Nt} (h : Ny w p b L) : w.cell? ⟨p, 0, none⟩ = some (.map (some b)) := by
  have := h.cell
  simp [World.cell?, this]

theorem Ny.alloc {w : World} {p b : Nat} {L : List Nt} (h : Ny w p b L) (o : Obj) : Ny (w.alloc o) p b L := h.kept (World.grownBy_alloc w o none) (by simp) (by simp)
theorem Ny.drewN {w : World} {p b : Nat} {L : List Nt} (h : Ny w p b L) (n : Nat) : Ny (w.drewN n) p b L := ⟨h.cell, h.own, h.nodup, h.small⟩

theorem below_drewN {B : Nat} {a w : World} (h : Below B a w) (n : Nat) : Below B a (w.drewN n) := ⟨h.os, h.tape, h.output, h.size, h.block⟩
theorem below_quiet (w : World) (o : Obj) (n : Nat) : Below w.heap.size w ((w.alloc o).drewN n) := below_drewN ((Below.refl _ _).alloc (Nat.le_refl _) _) n

set_option maxHeartbeats 400000 in
theorem notarySign_no (a t : ByteArray) (w : World) (q : Value) (ha : a.size ≤ 5000) (ht : t.size ≤ 5000) (h : nameB a.data.toList = false ∨ 4096 < t.size) :
    Calls Try.prog 15 #[q, .string a, .string t] w fun e w' => e = .returned (.string ⟨#[]⟩) ∧ w = w' := by
  by_cases hn : nameB a.data.toList = false
  · go_enter Try.func15, Try.ntmps15
    go_wp2_with (go_at_call 25; refine (markName_any _ _ (by unfold maxLen; omega)).mono ?_; rintro e w' ⟨rfl, rfl⟩)
    go_ret
    exact ⟨rfl, rfl⟩
  · have h4 : 4096 < t.size := by rcases h with h | h; exact absurd h hn; exact h
    have hn' : nameB a.data.toList = true := by simpa using hn
    clear hn h
    go_enter Try.func15, Try.ntmps15
    go_wp2_with (go_at_call 25; refine (markName_any _ _ (by unfold maxLen; omega)).mono ?_; rintro e w' ⟨rfl, rfl⟩)
    go_ret
    exact ⟨rfl, rfl⟩

set_option maxHeartbeats 400000 in
theorem notarySign_old (a t : ByteArray) (w : World) (p b : Nat) (L : List Nt) (hN : Ny w p b L) (hn : nameB a.data.toList = true) (ha : a.size ≤ 5000) (ht : t.size ≤ 4096) (hh : hasN L (a, t) = true) :
    Calls Try.prog 15 #[.pointer (some ⟨p, 0, none⟩), .string a, .string t] w fun e w' => e = .returned (.string (signB a t)) ∧ Below w.heap.size w w' := by
  have hx : Small (a, t) := ⟨by unfold maxLen; simp; omega, by unfold maxLen; simp; omega⟩
  have hc := hN.cell0
  have hpl := hN.plt
  have hlk : ∀ o n, (Instr.lookup 51 (.map (some b)) (.agg #[.string a, .string t]) false).run Try.prog ((w.alloc o).drewN n) = .ok (.bool true) ((w.alloc o).drewN n) := fun o n => by
    have := ((hN.alloc o).drewN n).look (a, t) hx
    rw [hh] at this
    exact this
  clear hh
  go_enter Try.func15, Try.ntmps15
  go_wp2_with (go_at_call 25; refine (markName_any _ _ (by unfold maxLen; omega)).mono ?_; rintro e w' ⟨rfl, rfl⟩)
  go_quiet (fail)
  go_wp2_with fail
  refine (sign_any a t _ (by omega) (by omega)).mono ?_
  rintro e w1 ⟨rfl, hb1⟩
  go_wp2
  go_ret
  have hbq := below_quiet w (.cells #[.string a, .string t] 55) nq
  exact ⟨rfl, hbq.trans (hb1.mono hbq.size)⟩

theorem grown_of_below {a w : World} (h : Below a.heap.size a w) (row : Option Nat) : a.grownBy w row := ⟨h.os, h.tape, h.output, h.size, fun i hi _ => h.block i hi⟩
theorem Ny.turned {w w' : World} {p b : Nat} {L : List Nt} {x : Nt} (h : Ny w p b L) (hx : hasN L x = false) (hs : x.1.size ≤ 16 ∧ x.2.size ≤ 4096) (hg : w.grownBy w' (some b))
    (ho : w'.ownsMap Try.prog 55 (plainElem (H := Unit) Try.prog 4) b (L.length + 1) ((setD L).put (nkey x) (.lit (.bool true)))) : Ny w' p b (L ++ [x]) := by
  refine ⟨(hg.block p h.plt (fun e => h.ne (by injection e))).trans h.cell, ?_, ?_, ?_⟩
  · rw [setD_snoc]; simpa using ho
  · rw [List.nodup_append]
    refine ⟨h.nodup, by simp, ?_⟩
    intro y hy z hz e
    simp at hz
    subst hz e
    exact (hasN_false _ _).1 hx hy
  · intro y hy
    rcases List.mem_append.1 hy with hy | hy
    · exact h.small y hy
    · simp at hy; subst hy; exact hs

theorem name_le {l : List UInt8} (h : nameB l = true) : l.length ≤ 16 := by
  simp [nameB] at h
  omega

set_option maxHeartbeats 400000 in
set_option maxRecDepth 100000 in
theorem notarySign_new (a t : ByteArray) (w : World) (p b : Nat) (L : List Nt) (hN : Ny w p b L) (hn : nameB a.data.toList = true) (ht : t.size ≤ 4096) (hh : hasN L (a, t) = false) (hL : L.length < 4096) :
    Calls Try.prog 15 #[.pointer (some ⟨p, 0, none⟩), .string a, .string t] w fun e w' => e = .returned (.string (signB a t)) ∧ Ny w' p b (L ++ [(a, t)]) ∧ w.grownBy w' (some b) := by
  have ha : a.size ≤ 16 := by have := name_le hn; simpa using this
  have hx : Small (a, t) := ⟨by unfold maxLen; simp; omega, by unfold maxLen; simp; omega⟩
  have hc := hN.cell0
  have hpl := hN.plt
  have hlk : ∀ o n, (Instr.lookup 51 (.map (some b)) (.agg #[.string a, .string t]) false).run Try.prog ((w.alloc o).drewN n) = .ok (.bool false) ((w.alloc o).drewN n) := fun o n => by
    have := ((hN.alloc o).drewN n).look (a, t) hx
    rw [hh] at this
    exact this
  have hln : ∀ o n, (Builtin.len_ #[51] 3 #[.map (some b)]).run Try.prog ((w.alloc o).drewN n) = .ok (.int .i64 (L.length : Nat)) ((w.alloc o).drewN n) := fun o n => by
    have := ((hN.alloc o).drewN n).own.len Try.underlying51 3
    rw [size_setD L hN.smalls hN.nodup] at this
    exact this
  have hnl := fun W => run_eql_map_nil (P := Try.prog) W 51 55 4 (some b) Try.underlying51
  have Hh := Lib.hid hh
  clear hh
  go_enter Try.func15, Try.ntmps15
  go_wp2_with (go_at_call 25; refine (markName_any _ _ (by unfold maxLen; omega)).mono ?_; rintro e w' ⟨rfl, rfl⟩)
  go_quiet (fail)
  go_wp2_with fail
  clear hlk hln hnl
  have hNW := (hN.alloc (.cells #[.string a, .string t] 55)).drewN nq
  have hbq := below_quiet w (.cells #[.string a, .string t] 55) nq
  have hsz : ((w.alloc (.cells #[.string a, .string t] 55)).drewN nq).heap.size = w.heap.size + 1 := by simp
  have Hsz := Lib.hid hsz
  have c0 : ((w.alloc (.cells #[.string a, .string t] 55)).drewN nq).cell? ⟨w.heap.size, 0, none⟩ = some (.string a) := by simp
  have c1 : ((w.alloc (.cells #[.string a, .string t] 55)).drewN nq).cell? ⟨w.heap.size, 1, none⟩ = some (.string t) := by simp
  clear hsz
  generalize ((w.alloc (.cells #[.string a, .string t] 55)).drewN nq) = W at *
  have cp := hNW.cell0
  clear hc
  obtain ⟨w2, hrun, hown2, hg2⟩ := (show W.drew.ownsMap Try.prog 55 (plainElem (H := Unit) Try.prog 4) b L.length (setD L) from hNW.own).update lawNote Try.underlying51 (by unfold maxLen; omega) (keyOf_note (a, t) hx) (plainElem_bool Try.underlying4 true)
  have hNy := hNW.turned Hh.out ⟨ha, ht⟩ (show W.grownBy w2 (some b) from ⟨hg2.os, hg2.tape, hg2.output, hg2.size, hg2.block⟩) hown2
  unfold nval at hrun
  have HN := Lib.hid hNy
  have HG := Lib.hid hg2
  have HB := Lib.hid hbq
  have d0 : w2.cell? ⟨w.heap.size, 0, none⟩ = some (.string a) := by
    rw [← c0]; exact World.cell?_of_block (hg2.block w.heap.size (by have := Hsz.out; show w.heap.size < W.heap.size; omega) (fun e => by injection e with e; have := hN.blt; omega))
  have d1 : w2.cell? ⟨w.heap.size, 1, none⟩ = some (.string t) := by
    rw [← c1]; exact World.cell?_of_block (hg2.block w.heap.size (by have := Hsz.out; show w.heap.size < W.heap.size; omega) (fun e => by injection e with e; have := hN.blt; omega))
  clear hNy hg2 hbq hown2 hNW
  go_region
  go_wp2_with fail
  refine (sign_any a t _ (by omega) (by omega)).mono ?_
  rintro e w3 ⟨rfl, hb3⟩
  go_wp2
  go_ret
  have h3 := HB.out.size
  have h4 : W.heap.size ≤ w2.heap.size := HG.out.size
  refine ⟨rfl, HN.out.below hb3 HN.out.plt HN.out.blt, ⟨?_, ?_, ?_, ?_, ?_⟩⟩
  · exact hb3.os.trans (HG.out.os.trans HB.out.os)
  · exact hb3.tape.trans (HG.out.tape.trans HB.out.tape)
  · exact hb3.output.trans (HG.out.output.trans HB.out.output)
  · have := hb3.size; omega
  · intro i hi hne
    exact (hb3.block i (by omega)).trans ((HG.out.block i (by show i < W.heap.size; omega) hne).trans (HB.out.block i hi))

/-- Sign, whatever the note: what holds behind it -/
theorem notarySign_any (x : Nt) (w : World) (p b : Nat) (L : List Nt) (hN : Ny w p b L) (ha : x.1.size ≤ 100) (ht : x.2.size ≤ 5000) (hL : L.length < 4096) :
    Calls Try.prog 15 #[.pointer (some ⟨p, 0, none⟩), .string x.1, .string x.2] w fun e w' => e = .returned (.string (sgnN x)) ∧ Ny w' p b (putN L x) ∧ w.grownBy w' (some b) := by
  obtain ⟨a, t⟩ := x
  simp only at ha ht ⊢
  by_cases hn : nameB a.data.toList = true
  · by_cases h4 : t.size ≤ 4096
    · have hok : okN (a, t) = true := by simp [okN, hn, h4]
      cases hh : hasN L (a, t)
      · refine (notarySign_new a t w p b L hN hn h4 hh hL).mono fun e w' ⟨he, h1, h2⟩ => ⟨?_, ?_, h2⟩
        · rw [he]; simp [sgnN, hok]
        · simpa [putN, hok, hh] using h1
      · refine (notarySign_old a t w p b L hN hn (by omega) h4 hh).mono fun e w' ⟨he, h1⟩ => ⟨?_, ?_, grown_of_below h1 _⟩
        · rw [he]; simp [sgnN, hok]
        · simpa [putN, hok, hh] using hN.below h1 hN.plt hN.blt
    · have hok : okN (a, t) = false := by simp [okN, h4]
      refine (notarySign_no a t w _ (by omega) ht (.inr (by omega))).mono fun e w' ⟨he, h1⟩ => ⟨?_, ?_, ?_⟩
      · rw [he]; simp [sgnN, hok]
      · subst h1; simpa [putN, hok] using hN
      · subst h1; exact World.grownBy.refl _ _
  · have hn' : nameB a.data.toList = false := by simpa using hn
    have hok : okN (a, t) = false := by simp [okN, hn']
    refine (notarySign_no a t w _ (by omega) ht (.inl hn')).mono fun e w' ⟨he, h1⟩ => ⟨?_, ?_, ?_⟩
    · rw [he]; simp [sgnN, hok]
    · subst h1; simpa [putN, hok] using hN
    · subst h1; exact World.grownBy.refl _ _
end Go.Proofs.Ytlbenmndmoeioaa
