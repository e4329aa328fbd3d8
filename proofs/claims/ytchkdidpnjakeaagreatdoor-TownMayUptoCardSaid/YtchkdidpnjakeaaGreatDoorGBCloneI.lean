/- slices.Clone of ints. bank.copyDocs: papers in new memory. A deal of a bank turns. Letters: their cells, their rows; endorse, refused. bank.move: a sum from one account to another. bank.pay: what it turns. A setup in memory: its parties, deals, funds, days. Boxes in new memory: what bank.New copies of a deal. -/
import Derived.Test.YtchkdidpnjakeaaGreatDoorGBPyRow
import Derived.Laws.OwnMore
import Derived.Deep.RegionHeld3
import Derived.Deep.RegionLaw
namespace Go.Proofs.YtchkdidpnjakeaaGreatDoor
open Go.RowKit Go.Maps Go.Lib
set_option linter.unusedVariables false
set_option maxRecDepth 100000

theorem infoCInt : (Tryz.prog.info? 3).map (fun i => (i.zero, i.size, i.bytes)) = some (some (.int .i64 0), 1, 8) := by kernel_rfl
set_option maxHeartbeats 1000000 in
theorem cloneInt (A : Option Addr) (n c : Nat) (vs : List Value) (w : World) (hl : vs.length = n * 1) (hA : A = none → n = 0) (hc : ∀ ad, A = some ad → ∀ j u, vs[j]? = some u → w.cell? (ad.add j) = some u) (h1 : ∀ u ∈ vs, u.oneCell' = true) (hn : n ≤ 100000000) :
    Calls Tryz.prog 43 #[.slice A n c] w fun e w' => ∃ A' c', e = .returned (.slice A' n c') ∧ w'.ownsRow w.heap.size 3 1 (.slice A' n c') n vs ∧ Below w.heap.size w w' := by
  have q22 : ∀ (w : World) (a : Option Addr) (n c n' c' : Nat), (binOp .eql 25 (.slice a n c) (.slice none n' c')).run Tryz.prog w = .ok (.bool a.isNone) w := fun w a n c n' c' => Lib.run_eql_slice_nil w _ _ a n c n' c' Tryz.underlying25
  cases A with
  | none =>
    have h0 := hA rfl
    subst h0
    have hv : vs = [] := List.length_eq_zero_iff.1 (by omega)
    subst hv
    go_enter Tryz.func43, Tryz.ntmps43
    go_wp2
    go_ret
    exact ⟨none, 0, rfl, World.ownsRow_nil _ _ _ _, Below.refl _ _⟩
  | some ad =>
    obtain ⟨i0, hi, hz0, hz1, hz2⟩ := info_parts infoCInt
    have Hc := Lib.hid (hc ad rfl)
    clear hc
    go_enter Tryz.func43, Tryz.ntmps43
    go_wp2_with (at_builtin; refine wpList_append_own _ rfl _ _ 25 rfl w.heap.size 3 i0 _ 1 8 Tryz.underlying25 hi hz0 hz1 hz2 rfl (by decide) _ _ _ rfl (World.ownsRow_made w #[] 0 (Nat.le_refl _) (Nat.zero_le _) rfl) ad n c vs rfl ?qc1 ?qc2 ?qc3 ?qc4 ?qc5 ?qc6 ?_)
    case qc1 => exact hl
    case qc2 =>
      intro j u hj
      exact Lib.cell?_alloc_some _ (Hc.out j u hj)
    case qc3 => exact h1
    case qc4 => unfold maxLen; omega
    case qc5 => omega
    case qc6 => simp
    intro v' w1 hown hgrow hnil
    go_wp2
    go_ret
    have hown' : w1.ownsRow w.heap.size 3 1 v' n vs := by simpa using hown
    obtain ⟨A', c', rfl⟩ : ∃ A' c', v' = .slice A' n c' := by
      rcases hown'.2 with ⟨h1, hn⟩ | ⟨g, cap, cur, he, _⟩
      · exact ⟨none, 0, by rw [h1, hn]⟩
      · exact ⟨_, _, he⟩
    exact ⟨A', c', rfl, hown', ((Below.refl _ w).alloc (Nat.le_refl _) _).grown hgrow (by simp) (by intro k hk; simp [Value.ownBlock] at hk; omega)⟩
/-- ints that stand are cloned -/
theorem cloneIt {w : World} {A : Option Addr} {l : List Int} {B : Nat} (h : It w B A l) (c : Nat) (hl : l.length ≤ 100000000) (hA : A = none → l.length = 0) : Calls Tryz.prog 43 #[.slice A l.length c] w fun e w' => ∃ A' c', e = .returned (.slice A' l.length c') ∧ ItT w' A' l ∧ (A' = none → l.length = 0) ∧ Below w.heap.size w w' := by
  refine (cloneInt A l.length c (l.map fun x => .int .i64 x) w (by simp) hA (fun ad hA2 j u hj => ?_) (fun u hu => by obtain ⟨x, _, rfl⟩ := List.mem_map.1 hu; rfl) hl).mono ?_
  · rw [List.getElem?_map] at hj
    cases hx : l[j]? with
    | none => rw [hx] at hj; cases hj
    | some x =>
      rw [hx] at hj
      injection hj with hj
      subst hj
      obtain ⟨g, off, e, _, hc⟩ := h (by have := (List.getElem?_eq_some_iff.1 hx).1; omega)
      rw [hA2] at e
      injection e with e
      subst e
      rw [Addr.add_lit]
      exact hc j x hx
  · rintro e w' ⟨A', c', rfl, ho, hb⟩
    refine ⟨A', c', rfl, fun h0 => ?_, fun hA' => ?_, hb⟩
    · rcases ho.2 with ⟨h1, h2⟩ | ⟨g, cap, cur, h1, h2, h3, h4⟩
      · omega
      · injection h1 with h1 _ _
        subst h1
        refine ⟨g, 0, rfl, ⟨_, _, _, h3, by decide⟩, fun i x hx => ?_⟩
        have hi := (List.getElem?_eq_some_iff.1 hx).1
        rw [Nat.zero_add, World.ownsRow.cellAt ho i (by omega), List.getElem?_map, hx]
        rfl
    · rcases ho.2 with ⟨h1, h2⟩ | ⟨g, cap, cur, h1, _⟩
      · exact h2
      · subst hA'; cases h1
end Go.Proofs.YtchkdidpnjakeaaGreatDoor
namespace Go.Proofs.YtchkdidpnjakeaaGreatDoor
open Go.RowKit Go.Maps Go.Lib
set_option linter.unusedVariables false
set_option maxRecDepth 100000

/-- a paper, and where its fields lie -/
structure Dp where
  x : Dc
  A : Option Addr
  c : Nat
section
variable {w w' : World} {A : Option Addr} {l : List Fp}
end
section
variable {w0 w w1 : World} {g cap k : Nat} {D : List Dc} {L : List Dp}
end
end Go.Proofs.YtchkdidpnjakeaaGreatDoor
namespace Go.Proofs.YtchkdidpnjakeaaGreatDoor
open Go.RowKit Go.Maps Go.Lib
set_option linter.unusedVariables false
set_option maxRecDepth 100000

section
variable {w w' : World} {K : Kk} {n m l : Nat} {S : Sb}
/-- only a deal's block has turned -/
structure Kq (q : Nat) (w w' : World) : Prop where
  os : w'.os = w.os
  tape : w'.tape = w.tape
  output : w'.output = w.output
  size : w.heap.size ≤ w'.heap.size
  block : ∀ k, k < w.heap.size → k ≠ q → w'.heap[k]? = w.heap[k]?
theorem Kq.kp {q : Nat} (h : Kq q w w') : Led.Kp (fun k => k = q) w w' := ⟨h.os, h.tape, h.output, h.size, fun k hk hn => h.block k hk hn⟩
theorem Kq.set (w : World) (q j : Nat) (u : Value) : Kq q w (w.setCell ⟨q, j, none⟩ u) := ⟨rfl, rfl, rfl, by simp, fun k hk hn => heap_setCell_other _ _ _ _ hn⟩
theorem Kq.of_below {q : Nat} (h : Below w.heap.size w w') : Kq q w w' := ⟨h.os, h.tape, h.output, h.size, fun k hk _ => h.block k hk⟩
theorem Kq.trans {q : Nat} {w2 : World} (h : Kq q w w') (k : Kq q w' w2) : Kq q w w2 := ⟨k.os.trans h.os, k.tape.trans h.tape, k.output.trans h.output, Nat.le_trans h.size k.size, fun i hi hn => (k.block i (Nat.lt_of_lt_of_le hi h.size) hn).trans (h.block i hi hn)⟩
theorem DealAt.lt {q : Nat} {d : Dl} {x : Dst} {A : Option Addr} {c : Nat} {PA : Option Addr} {pc : Nat} {FA : Option Addr} {fc : Nat} (h : DealAt w q d x A c PA pc FA fc) : q < w.heap.size := (Array.getElem?_eq_some_iff.1 h.cell).1
end
end Go.Proofs.YtchkdidpnjakeaaGreatDoor
namespace Go.Proofs.YtchkdidpnjakeaaGreatDoor
open Go.RowKit Go.Maps Go.Lib
set_option linter.unusedVariables false
set_option maxRecDepth 100000

/-- a letter -/
structure Le where
  frm : ByteArray := ⟨#[]⟩
  dst : ByteArray := ⟨#[]⟩
  num : Int := 0
  kd : Int := 0
  ack : Int := 0
  deal : ByteArray := ⟨#[]⟩
  text : ByteArray := ⟨#[]⟩
  party : ByteArray := ⟨#[]⟩
  ix : Int := 0
  day : Int := 0
  cur : ByteArray := ⟨#[]⟩
  amt : Int := 0
  docs : List Dc := []
/-- a letter, where its papers lie, its boxes -/
structure Lq where
  x : Le
  A : Option Addr := none
  c : Nat := 0
  bv : Value := .slice none 0 0
section
variable {w w' : World} {base : Nat} {v : Value} {T : List Lq}
end
end Go.Proofs.YtchkdidpnjakeaaGreatDoor
namespace Go.Proofs.YtchkdidpnjakeaaGreatDoor
open Go.RowKit Go.Maps Go.Lib
set_option linter.unusedVariables false
set_option maxRecDepth 100000

def MovP (K : Kk) (n m l : Nat) (S : Sb) (es : List Led.Ent) (w : World) (e : Ending) (w' : World) : Prop := ∃ ok : Bool, e = .returned (.bool ok) ∧ Fk K w w' ∧
  ((ok = true ∧ Led.FitsA S.G es ∧ Bk w' K (n + 2) m (l + 1) ⟨Led.bump S.G (Led.eachG es), S.H, S.D⟩) ∨ (ok = false ∧ ¬ Led.FitsA S.G es ∧ Bk w' K (n + 2) m (l + 1) S))
theorem Led.re_two_at {V : World} {g : Nat} {a1 a2 c : ByteArray} {n m : Int} {t : TypeId} {fr : Nat × Nat} (hg : V.heap[g]? = some (.cells #[.string a1, .string c, .int .i64 n, .string a2, .string c, .int .i64 m] t fr)) : Led.Re V V.heap.size (some ⟨g, 0, none⟩) (Led.two a1 a2 c n m) := fun _ => by
  refine ⟨g, 0, rfl, (Array.getElem?_eq_some_iff.1 hg).1, fun i e he => ?_⟩
  rcases i with _ | _ | i
  · simp [Led.two] at he; subst he; simp [World.cell?, hg]
  · simp [Led.two] at he; subst he; simp [World.cell?, hg]
  · simp [Led.two] at he
theorem Bk.post {w w1 : World} {K : Kk} {n m l : Nat} {S : Sb} (x : Bk w K n m l S) (hb : Below w.heap.size w w1) {txt a1 a2 c : ByteArray} {v1 v2 : Int} {A : Option Addr} (hR : Led.Re w1 w1.heap.size A (Led.two a1 a2 c v1 v2)) (h1 : a1.size ≤ maxLen) (h2 : a2.size ≤ maxLen) (h3 : c.size ≤ maxLen) (hn : n < 3000000) (hl : l < 4096) (ht : txt.size ≤ 4096) :
    Calls Tryz.prog 186 #[.pointer (some ⟨K.p, 0, none⟩), .string txt, .slice A 2 2] w1 fun e w' => ∃ y code : Int, e = .returned (.tuple #[.int .i64 y, .int .i64 code]) ∧ MovP K n m l S (Led.two a1 a2 c v1 v2) w (.returned (.bool (code == 0))) w' ∧ Led.Fl K.base K.p K.b K.h w1 w' := by
  have x1 := x.below hb
  refine (Led.post_z txt A 2 (Led.two a1 a2 c v1 v2) w1 K.base K.eb K.p K.b K.h n m l S.G S.H x1.led hR (by simp [Led.two]) (by simp [Led.two]) (fun e he => ?_) (by omega) hl ht).mono ?_
  · simp [Led.two] at he
    rcases he with rfl | rfl
    · exact ⟨h1, h3⟩
    · exact ⟨h2, h3⟩
  · rintro e w' ⟨y, code, rfl, hf, hc⟩
    have hk : Fk K w w' := (Fk.of_below x hb).trans (Fk.of_fl hf)
    refine ⟨y, code, rfl, ⟨_, rfl, hk, ?_⟩, hf⟩
    rcases hc with ⟨hfit, rfl, hz⟩ | ⟨hfit, h0, hz⟩
    · exact .inl ⟨rfl, hfit, x1.led_ hf hz⟩
    · exact .inr ⟨beq_eq_false_iff_ne.2 h0, hfit, x1.led_ hf hz⟩
end Go.Proofs.YtchkdidpnjakeaaGreatDoor
namespace Go.Proofs.YtchkdidpnjakeaaGreatDoor
open Go.RowKit Go.Maps Go.Lib
set_option linter.unusedVariables false
set_option maxRecDepth 100000

/-- a deal as the setup may have it -/
structure DlOk (d : Dl) : Prop where
  str : ∀ s ∈ [d.num, d.sel, d.buy, d.car, d.iss, d.hou, d.ins, d.frm, d.dst, d.cur], s.size ≤ 1048576
  int : ∀ n ∈ [d.amt, d.trm, d.lat, d.exp, d.ten, d.dut], -9223372036854775808 ≤ n ∧ n ≤ 9223372036854775807
  box : BxsOk d.box
  few : d.box.length ≤ 8
  mark : ∀ b ∈ d.box, b.m.size ≤ 1048576
  wide : (marksT d.box).size ≤ 3000000
  ten : -1048576 ≤ d.ten ∧ d.ten ≤ 1048576
  exp : -536870912 ≤ d.exp ∧ d.exp ≤ 536870912
structure KOk (K : Kk) : Prop where
  nm : K.nm.size ≤ 1048576
  py : ∀ s y, K.P s = some y → y.bk.size ≤ 1048576 ∧ y.nm.size ≤ 1048576
  dl : ∀ s d, K.dl s = some d → DlOk d
  rs : K.rest.length ≤ 1000
  hs : K.hol.length ≤ 1000
def vostro (s : ByteArray) : ByteArray := (⟨#[118, 111, 115, 116, 114, 111, 58]⟩ : ByteArray) ++ s
theorem vostro_size (s : ByteArray) : (vostro s).size = 7 + s.size := by unfold vostro; rw [ByteArray.size_append]; rfl
section
variable {w w1 : World} {K : Kk} {n m l : Nat} {S : Sb}
end
end Go.Proofs.YtchkdidpnjakeaaGreatDoor
namespace Go.Proofs.YtchkdidpnjakeaaGreatDoor
open Go.RowKit Go.Maps Go.Lib
set_option linter.unusedVariables false
set_option maxRecDepth 100000

/-- deals that stand, below a block -/
def Dlw (w : World) (B : Nat) (A : Option Addr) (L : List Dl) : Prop := 0 < L.length → ∃ g off, A = some ⟨g, off, none⟩ ∧ g < B ∧ ∀ i d, L[i]? = some d → ∃ A' c', (∀ j v, (dlA d A' c')[j]? = some v → w.cell? ⟨g, off + i * 17 + j, none⟩ = some v) ∧ Bxs w B A' d.box ∧ (A' = none → d.box.length = 0)
theorem Dlw.below {w w' : World} {B : Nat} {A : Option Addr} {L : List Dl} (h : Dlw w B A L) (hb : Below B w w') : Dlw w' B A L := fun hl => by
  obtain ⟨g, off, e, hg, hc⟩ := h hl
  refine ⟨g, off, e, hg, fun i d hd => ?_⟩
  obtain ⟨A', c', h1, h2, h3⟩ := hc i d hd
  exact ⟨A', c', fun j v hv => (hb.cell (p := ⟨g, off + i * 17 + j, none⟩) hg).trans (h1 j v hv), h2.kept hb, h3⟩
theorem Dlw.at_ {w : World} {B : Nat} {A : Option Addr} {L : List Dl} (h : Dlw w B A L) {k : Nat} {d : Dl} (hk : L[k]? = some d) : ∃ g off A' c', A = some ⟨g, off, none⟩ ∧ g < B ∧ (∀ j v, (dlA d A' c')[j]? = some v → w.cell? ⟨g, off + k * 17 + j, none⟩ = some v) ∧ Bxs w B A' d.box ∧ (A' = none → d.box.length = 0) := by
  obtain ⟨g, off, e, hg, hc⟩ := h (by have := (List.getElem?_eq_some_iff.1 hk).1; omega)
  obtain ⟨A', c', h1, h2, h3⟩ := hc k d hk
  exact ⟨g, off, A', c', e, hg, h1, h2, h3⟩
/-- a setup -/
structure Su where
  par : List Py
  dl : List Dl
  fd : List Led.Ent
  rest : List Int
  hol : List Int
/-- where a setup lies -/
structure Sa where
  PA : Option Addr
  pc : Nat
  DA : Option Addr
  dc : Nat
  FA : Option Addr
  fc : Nat
  RA : Option Addr
  rc : Nat
  HA : Option Addr
  hc : Nat
def suA (x : Su) (a : Sa) : Array Value := #[.slice a.PA x.par.length a.pc, .slice a.DA x.dl.length a.dc, .slice a.FA x.fd.length a.fc, .slice a.RA x.rest.length a.rc, .slice a.HA x.hol.length a.hc]
structure SuAt (w : World) (B : Nat) (x : Su) (a : Sa) : Prop where
  par : Pys w B a.PA x.par
  dl : Dlw w B a.DA x.dl
  fd : Led.Re w B a.FA x.fd
  rest : It w B a.RA x.rest
  hol : It w B a.HA x.hol
theorem SuAt.below {w w' : World} {B : Nat} {x : Su} {a : Sa} (h : SuAt w B x a) (hb : Below B w w') : SuAt w' B x a := ⟨h.par.below hb, h.dl.below hb, h.fd.below hb, h.rest.kept hb, h.hol.kept hb⟩
/-- a setup that is few -/
structure SuOk (x : Su) : Prop where
  par : x.par.length ≤ 16
  dl : x.dl.length ≤ 6
  fd : x.fd.length ≤ 20
  rest : x.rest.length ≤ 10
  hol : x.hol.length ≤ 100
  py : ∀ y ∈ x.par, y.nm.size ≤ 1048576 ∧ y.bk.size ≤ 1048576 ∧ -9223372036854775808 ≤ y.kd ∧ y.kd ≤ 9223372036854775807
  dls : ∀ d ∈ x.dl, DlOk d
  fds : ∀ e ∈ x.fd, e.acc.size ≤ 1048576 ∧ e.cur.size ≤ 1048576 ∧ -9223372036854775808 ≤ e.n ∧ e.n ≤ 9223372036854775807
/-- the first party of a name -/
def parF (l : List Py) (s : ByteArray) : Option Py := l.find? fun y => decide (y.nm = s)
/-- the first deal of a number that a bank issues -/
def dlF (nm : ByteArray) (l : List Dl) (s : ByteArray) : Option Dl := l.find? fun d => decide (d.num = s) && decide (d.iss = nm)
/-- the parties, each name once -/
def firsts : List Py → List Py → List Py
  | acc, [] => acc
  | acc, y :: l => firsts (if (parF acc y.nm).isSome then acc else acc ++ [y]) l
theorem parF_snoc (l : List Py) (y : Py) (s : ByteArray) : parF (l ++ [y]) s = if (parF l s).isSome then parF l s else if y.nm = s then some y else none := by
  unfold parF
  rw [List.find?_append]
  cases h : l.find? fun y => decide (y.nm = s) with
  | some z => rfl
  | none =>
    by_cases e : y.nm = s <;> simp [e]
theorem dlF_snoc (nm : ByteArray) (l : List Dl) (d : Dl) (s : ByteArray) : dlF nm (l ++ [d]) s = if (dlF nm l s).isSome then dlF nm l s else if d.num = s ∧ d.iss = nm then some d else none := by
  unfold dlF
  rw [List.find?_append]
  cases h : l.find? fun d => decide (d.num = s) && decide (d.iss = nm) with
  | some z => rfl
  | none =>
    by_cases e : d.num = s ∧ d.iss = nm
    · rw [if_pos e]
      simp [e.1, e.2]
    · rw [if_neg e]
      simp only [Option.none_or, Option.isSome_none, Bool.false_eq_true, if_false, List.find?_cons, List.find?_nil]
      by_cases e1 : d.num = s
      · have e2 : ¬ d.iss = nm := fun h => e ⟨e1, h⟩
        simp [e1, e2]
      · simp [e1]
end Go.Proofs.YtchkdidpnjakeaaGreatDoor
namespace Go.Proofs.YtchkdidpnjakeaaGreatDoor
open Go.RowKit Go.Maps Go.Lib
set_option linter.unusedVariables false
set_option maxRecDepth 100000

/-- a box, and where its lots lie -/
structure Bp where
  x : Bx
  A : Option Addr
  c : Nat
def Bp.cells (y : Bp) : List Value := [.string y.x.m, .int .i64 y.x.k, .slice y.A y.x.l.length y.c]
def cellsX (T : List Bp) : List Value := T.flatMap Bp.cells
theorem cellsX_cons (u : Bp) (T : List Bp) : cellsX (u :: T) = .string u.x.m :: .int .i64 u.x.k :: .slice u.A u.x.l.length u.c :: cellsX T := rfl
theorem cellsX_len (T : List Bp) : (cellsX T).length = T.length * 3 := by
  induction T with
  | nil => rfl
  | cons e T ih => rw [cellsX_cons]; simp only [List.length_cons, ih]; omega
theorem cellsX_at : ∀ (T : List Bp) (i : Nat) (t : Bp), T[i]? = some t → (cellsX T)[i * 3]? = some (.string t.x.m) ∧ (cellsX T)[i * 3 + 1]? = some (.int .i64 t.x.k) ∧ (cellsX T)[i * 3 + 2]? = some (.slice t.A t.x.l.length t.c)
  | [], i, t, h => by simp at h
  | u :: T, 0, t, h => by simp at h; subst h; exact ⟨rfl, rfl, rfl⟩
  | u :: T, i + 1, t, h => by
    have := cellsX_at T i t (by simpa using h)
    rw [cellsX_cons]
    have e0 : (i + 1) * 3 = i * 3 + 1 + 1 + 1 := by omega
    have e1 : (i + 1) * 3 + 1 = i * 3 + 1 + 1 + 1 + 1 := by omega
    have e2 : (i + 1) * 3 + 2 = i * 3 + 2 + 1 + 1 + 1 := by omega
    rw [e1, e2, e0]
    exact this
theorem cellsX_one (T : List Bp) : ∀ u ∈ cellsX T, u.oneCell' = true := by
  intro u hu
  obtain ⟨e, _, h⟩ := List.mem_flatMap.1 hu
  simp [Bp.cells] at h
  rcases h with rfl | rfl | rfl <;> rfl
theorem cellsX_set : ∀ (T : List Bp) (k : Nat) (t u : Bp), T[k]? = some t → u.x = t.x → (cellsX T).set (k * 3 + 2) (.slice u.A u.x.l.length u.c) = cellsX (T.set k u)
  | [], k, t, u, h, _ => by simp at h
  | x :: T, 0, t, u, h, hu => by
    simp at h
    subst h
    simp [cellsX, Bp.cells, hu]
  | x :: T, k + 1, t, u, h, hu => by
    have := cellsX_set T k t u (by simpa using h) hu
    have e1 : (k + 1) * 3 + 2 = (k * 3 + 2) + 1 + 1 + 1 := by omega
    rw [cellsX_cons, e1, List.set_cons_succ, List.set_cons_succ, List.set_cons_succ, this]
    rfl
theorem map_set_b (T : List Bp) (k : Nat) (t u : Bp) (h : T[k]? = some t) (hu : u.x = t.x) : (T.set k u).map Bp.x = T.map Bp.x := by
  rw [List.map_set, hu]
  apply List.ext_getElem?
  intro i
  rw [List.getElem?_set]
  split
  · rename_i e
    subst e
    obtain ⟨hk, hx⟩ := List.getElem?_eq_some_iff.1 h
    simp [hk, hx]
  · rfl
/-- boxes, as they lie somewhere below B -/
theorem Bxs.list {w : World} {B : Nat} {A : Option Addr} {D : List Bx} (h : Bxs w B A D) (h0 : 0 < D.length) : ∃ (L : List Bp) (g off : Nat), A = some ⟨g, off, none⟩ ∧ g < B ∧ L.map Bp.x = D ∧ (∀ j u, (cellsX L)[j]? = some u → w.cell? ⟨g, off + j, none⟩ = some u) ∧ ∀ y ∈ L, Lts w B y.A y.x.l ∧ (y.A = none → y.c = 0) := by
  obtain ⟨g, off, e, hg, hc⟩ := h h0
  have HE := e
  clear h h0
  have key : ∀ (T : List Bx) (o : Nat), (∀ i x, T[i]? = some x → ∃ A' c', B3 w B g (o + i * 3) x A' c') → ∃ L : List Bp, L.map Bp.x = T ∧ (∀ j u, (cellsX L)[j]? = some u → w.cell? ⟨g, o + j, none⟩ = some u) ∧ ∀ y ∈ L, Lts w B y.A y.x.l ∧ (y.A = none → y.c = 0) := by
    intro T
    induction T with
    | nil => intro o _; exact ⟨[], rfl, fun j u h => by simp [cellsX] at h, fun y h => by cases h⟩
    | cons x T ih =>
      intro o hT
      obtain ⟨A', c', h4⟩ := hT 0 x rfl
      obtain ⟨L, h1, h2, h3⟩ := ih (o + 3) (fun i y hy => by
        obtain ⟨A2, c2, k4⟩ := hT (i + 1) y (by simpa using hy)
        refine ⟨A2, c2, ?_⟩
        have e : o + (i + 1) * 3 = o + 3 + i * 3 := by omega
        rw [e] at k4
        exact k4)
      refine ⟨⟨x, A', c'⟩ :: L, by simp [h1], fun j u hj => ?_, fun y hy => ?_⟩
      · rw [cellsX_cons] at hj
        match j, hj with
        | 0, hj => simp at hj; subst hj; exact h4.c0
        | 1, hj => simp at hj; subst hj; exact h4.c1
        | 2, hj => simp at hj; subst hj; exact h4.c2
        | j + 3, hj =>
          have e : o + (j + 3) = o + 3 + j := by omega
          rw [e]
          exact h2 j u (by simpa using hj)
      · rcases List.mem_cons.1 hy with rfl | hy
        · exact ⟨h4.lots, h4.nil⟩
        · exact h3 y hy
  obtain ⟨L, h1, h2, h3⟩ := key D off hc
  exact ⟨L, g, off, HE, hg, h1, h2, h3⟩
/-- lots in a row of lots -/
def LtF (w : World) (A : Option Addr) (l : List Lt) : Prop := 0 < l.length → ∃ g off cs fr, A = some ⟨g, off, none⟩ ∧ w.heap[g]? = some (.cells cs 91 fr) ∧ LtAt w g off l
section
variable {w w' : World} {A : Option Addr} {l : List Lt}
theorem LtF.ltt (h : LtF w A l) : LtT w A l := fun h0 => by
  obtain ⟨g, off, cs, fr, e, hg, hc⟩ := h h0
  exact ⟨g, off, e, ⟨cs, _, fr, hg, by decide⟩, hc⟩
theorem LtF.blk (h : LtF w A l) (hk : ∀ (g : Nat) (cs : Array Value) (fr : Nat × Nat), w.heap[g]? = some (.cells cs 91 fr) → w'.heap[g]? = some (.cells cs 91 fr)) : LtF w' A l := fun h0 => by
  obtain ⟨g, off, cs, fr, e, hg, hc⟩ := h h0
  have hg' := hk _ _ _ hg
  have hcell : ∀ j, w'.cell? ⟨g, j, none⟩ = w.cell? ⟨g, j, none⟩ := fun j => World.cell?_of_block (by rw [hg, hg'])
  exact ⟨g, off, cs, fr, e, hg', fun i x hx => ⟨(hcell _).trans (hc i x hx).1, (hcell _).trans (hc i x hx).2⟩⟩
theorem LtF.below (h : LtF w A l) (hb : Below w.heap.size w w') : LtF w' A l := h.blk fun g cs fr hg => (hb.block g (Array.getElem?_eq_some_iff.1 hg).1).trans hg
theorem LtF.set (h : LtF w A l) {g : Nat} {cs : Array Value} {fr : Nat × Nat} (hg : w.heap[g]? = some (.cells cs 89 fr)) (j : Nat) (u : Value) : LtF (w.setCell ⟨g, j, none⟩ u) A l := h.blk fun g' cs' fr' hg' => by
  rw [heap_setCell_other _ _ _ _ (show g' ≠ g from fun e => by rw [e, hg] at hg'; injection hg' with hg'; injection hg' with _ hg'; revert hg'; decide)]
  exact hg'
end
def lcB (x : Lt) : List Value := [.string x.g, .int .i64 x.c]
def lcsB (L : List Lt) : List Value := L.flatMap lcB
theorem lcsB_len (L : List Lt) : (lcsB L).length = L.length * 2 := by
  induction L with
  | nil => rfl
  | cons e T ih => show (lcB e ++ lcsB T).length = _; rw [List.length_append, ih]; simp [lcB]; omega
theorem lcsB_at : ∀ (T : List Lt) (i : Nat) (t : Lt), T[i]? = some t → (lcsB T)[i * 2]? = some (.string t.g) ∧ (lcsB T)[i * 2 + 1]? = some (.int .i64 t.c)
  | [], i, t, h => by simp at h
  | u :: T, 0, t, h => by simp at h; subst h; exact ⟨rfl, rfl⟩
  | u :: T, i + 1, t, h => by
    have := lcsB_at T i t (by simpa using h)
    have e : lcsB (u :: T) = .string u.g :: .int .i64 u.c :: lcsB T := rfl
    rw [e]
    have e0 : (i + 1) * 2 = i * 2 + 1 + 1 := by omega
    have e1 : (i + 1) * 2 + 1 = i * 2 + 1 + 1 + 1 := by omega
    rw [e1, e0]
    exact this
theorem LtF.of_row {w : World} {base c : Nat} {A : Option Addr} {l : List Lt} (h : w.ownsRow base 91 2 (.slice A l.length c) l.length (lcsB l)) : LtF w A l := fun h0 => by
  rcases h.2 with ⟨h1, hn⟩ | ⟨g, cap, cur, he, h2, h3, _⟩
  · omega
  · injection he with e1 _ e3
    subst e1 e3
    refine ⟨g, 0, cur, (0, 0), rfl, h3, fun i x hx => ?_⟩
    have hi : i < l.length := (List.getElem?_eq_some_iff.1 hx).1
    obtain ⟨c0, c1⟩ := lcsB_at l i x hx
    rw [Nat.zero_add]
    exact ⟨(World.ownsRow.cellAt h (i * 2) (by omega)).trans c0, (World.ownsRow.cellAt h (i * 2 + 1) (by omega)).trans c1⟩
theorem lts_cells {w : World} {B : Nat} {A : Option Addr} {l : List Lt} (h : Lts w B A l) : (A = none → l.length = 0) ∧ ∀ ad, A = some ad → ∀ j u, (lcsB l)[j]? = some u → w.cell? (ad.add j) = some u := by
  refine ⟨fun e => ?_, fun ad e j u hj => ?_⟩
  · by_cases h0 : 0 < l.length
    · obtain ⟨g, off, e2, _⟩ := h h0
      rw [e] at e2
      cases e2
    · omega
  · have hjl := (List.getElem?_eq_some_iff.1 hj).1
    rw [lcsB_len] at hjl
    obtain ⟨g, off, e2, _, hc⟩ := h (by omega)
    rw [e] at e2
    injection e2 with e2
    subst e2
    rw [Addr.add_lit]
    have hq : j / 2 < l.length := by omega
    obtain ⟨c0, c1⟩ := hc _ _ (List.getElem?_eq_getElem hq)
    obtain ⟨d0, d1⟩ := lcsB_at l _ _ (List.getElem?_eq_getElem hq)
    rcases (show j = j / 2 * 2 ∨ j = j / 2 * 2 + 1 by omega) with h | h
    · rw [h] at hj ⊢; rw [d0] at hj; rw [c0]; exact hj
    · rw [h] at hj ⊢; rw [d1] at hj; rw [← Nat.add_assoc, c1]; exact hj
theorem lcsB_one (l : List Lt) : ∀ u ∈ lcsB l, u.oneCell' = true := by
  intro u hu
  obtain ⟨e, _, h⟩ := List.mem_flatMap.1 hu
  simp [lcB] at h
  rcases h with rfl | rfl <;> rfl
theorem cloneLt {w : World} {B : Nat} {A : Option Addr} {l : List Lt} (c : Nat) (h : Lts w B A l) (hl : l.length ≤ 100000000) :
    Calls Tryz.prog 46 #[.slice A l.length c] w fun e w' => ∃ A' c', e = .returned (.slice A' l.length c') ∧ LtF w' A' l ∧ (A' = none → c' = 0) ∧ Below w.heap.size w w' := by
  refine (cloneLot A l.length c (lcsB l) w (lcsB_len l) (lts_cells h).1 (lts_cells h).2 (lcsB_one l) hl).mono ?_
  rintro e w' ⟨A', c', rfl, h2, h3⟩
  refine ⟨A', c', rfl, LtF.of_row h2, fun hn => ?_, h3⟩
  rcases h2.2 with ⟨e1, _⟩ | ⟨g, cap, cur, he, _⟩
  · injection e1
  · subst hn; cases he
/-- how far the copying has come: the row is block g -/
structure Cb (w0 w : World) (g cap k : Nat) (D : List Bx) (L : List Bp) : Prop where
  pts : L.map Bp.x = D
  row : w.ownsRow w0.heap.size 89 3 (.slice (some ⟨g, 0, none⟩) L.length cap) L.length (cellsX L)
  old : ∀ i y, L[i]? = some y → k ≤ i → Lts w w0.heap.size y.A y.x.l ∧ (y.A = none → y.c = 0)
  new : ∀ i y, L[i]? = some y → i < k → LtF w y.A y.x.l ∧ (y.A = none → y.c = 0)
  bel : Below w0.heap.size w0 w
section
variable {w0 w w1 : World} {g cap k : Nat} {D : List Bx} {L : List Bp}
theorem Cb.len (h : Cb w0 w g cap k D L) : L.length = D.length := by have := congrArg List.length h.pts; simpa using this
theorem Cb.glt (h : Cb w0 w g cap k D L) : w0.heap.size ≤ g ∧ g < w.heap.size := h.row.lt g rfl
theorem Cb.at_ (h : Cb w0 w g cap k D L) {i : Nat} (hi : i < L.length) : w.cell? ⟨g, i * 3 + 2, none⟩ = some (.slice L[i].A L[i].x.l.length L[i].c) ∧ w.frozen? ⟨g, i * 3 + 2, none⟩ = false := by
  refine ⟨?_, h.row.frozenAt _⟩
  rw [h.row.cellAt (i * 3 + 2) (by omega)]
  exact (cellsX_at L i _ (List.getElem?_eq_getElem hi)).2.2
theorem Cb.blk (h : Cb w0 w g cap k D L) : ∃ cs fr, w.heap[g]? = some (.cells cs 89 fr) := by
  rcases h.row.2 with ⟨h1, hn⟩ | ⟨g', cap', cur, he, h2, h3, _⟩
  · cases h1
  · injection he with e1 _ _
    injection e1 with e1
    injection e1 with e1
    subst e1
    exact ⟨cur, _, h3⟩
theorem Cb.below (h : Cb w0 w g cap k D L) (hb : Below w.heap.size w w1) : Cb w0 w1 g cap k D L :=
  ⟨h.pts, Led.ownsRow_kp h.row (Led.Kp.of_below (fun _ => False) hb) (fun _ _ e => e), fun i y hy hi => ⟨(h.old i y hy hi).1.kept (hb.mono h.bel.size), (h.old i y hy hi).2⟩, fun i y hy hi => ⟨(h.new i y hy hi).1.below hb, (h.new i y hy hi).2⟩, h.bel.trans (hb.mono h.bel.size)⟩
theorem Cb.step {A' : Option Addr} {c' : Nat} (h : Cb w0 w g cap k D L) (hk : k < L.length) (hb : Below w.heap.size w w1) (hR : LtF w1 A' L[k].x.l) (hn : A' = none → c' = 0) :
    Cb w0 (w1.setCell ⟨g, k * 3 + 2, none⟩ (.slice A' L[k].x.l.length c')) g cap (k + 1) D (L.set k ⟨L[k].x, A', c'⟩) := by
  have hg := h.glt
  have hs := hb.size
  have hrow1 := Led.ownsRow_kp h.row (Led.Kp.of_below (fun _ => False) hb) (fun _ _ e => e)
  have hst := hrow1.stored (k * 3 + 2) (.slice A' L[k].x.l.length c')
  obtain ⟨cs, fr, hblk⟩ := h.blk
  have hblk1 := (hb.block g hg.2).trans hblk
  refine ⟨?_, ?_, ?_, ?_, ?_⟩
  · exact (map_set_b L k L[k] ⟨L[k].x, A', c'⟩ (List.getElem?_eq_getElem hk) rfl).trans h.pts
  · have := hst.1
    rw [cellsX_set L k L[k] ⟨L[k].x, A', c'⟩ (List.getElem?_eq_getElem hk) rfl] at this
    simpa using this
  · intro i y hy hi
    rw [List.getElem?_set_ne (by omega)] at hy
    have hbb : Below w0.heap.size w (w1.setCell ⟨g, k * 3 + 2, none⟩ (.slice A' L[k].x.l.length c')) := (hb.mono h.bel.size).setCell hg.1 _
    exact ⟨(h.old i y hy (by omega)).1.kept hbb, (h.old i y hy (by omega)).2⟩
  · intro i y hy hi
    by_cases e : i = k
    · subst e
      rw [List.getElem?_set_self hk] at hy
      injection hy with hy
      subst hy
      exact ⟨hR.set hblk1 _ _, hn⟩
    · rw [List.getElem?_set_ne (by omega)] at hy
      exact ⟨((h.new i y hy (by omega)).1.below hb).set hblk1 _ _, (h.new i y hy (by omega)).2⟩
  · exact (h.bel.trans (hb.mono h.bel.size)).setCell hg.1 _
theorem Cb.bxt (h : Cb w0 w g cap D.length D L) : BxT w (some ⟨g, 0, none⟩) D := fun h0 => by
  have hl := h.len
  obtain ⟨cs, fr, hb⟩ := h.blk
  refine ⟨g, 0, rfl, ⟨cs, _, fr, hb, by decide⟩, fun i x hx => ?_⟩
  rw [← h.pts, List.getElem?_map] at hx
  obtain ⟨y, hy, rfl⟩ := Option.map_eq_some_iff.1 hx
  have hi : i < L.length := (List.getElem?_eq_some_iff.1 hy).1
  obtain ⟨c0, c1, c2⟩ := cellsX_at L i y hy
  rw [Nat.zero_add]
  exact ⟨y.A, y.c, (World.ownsRow.cellAt h.row (i * 3) (by omega)).trans c0, (World.ownsRow.cellAt h.row (i * 3 + 1) (by omega)).trans c1, (World.ownsRow.cellAt h.row (i * 3 + 2) (by omega)).trans c2, (h.new i y hy (by omega)).1.ltt, (h.new i y hy (by omega)).2⟩
end
/-- boxes are cloned, their lots not yet -/
def ClB (w0 : World) (D : List Bx) (A' : Option Addr) (c' : Nat) (w' : World) : Prop := (A' = none ∧ D = [] ∧ Below w0.heap.size w0 w') ∨ ∃ g L, A' = some ⟨g, 0, none⟩ ∧ Cb w0 w' g c' 0 D L
theorem cloneBx {w0 w : World} {A : Option Addr} {D : List Bx} (c : Nat) (hb0 : Below w0.heap.size w0 w) (h : Bxs w w0.heap.size A D) (hl : D.length ≤ 100000000) :
    Calls Tryz.prog 45 #[.slice A D.length c] w fun e w' => ∃ A' c', e = .returned (.slice A' D.length c') ∧ ClB w0 D A' c' w' ∧ Below w.heap.size w w' := by
  have hA : A = none → D.length = 0 := fun e => by
    by_cases h0 : 0 < D.length
    · obtain ⟨g, off, e2, _⟩ := h h0
      rw [e] at e2
      cases e2
    · omega
  obtain ⟨L, hLx, hcells, hLf⟩ : ∃ L : List Bp, L.map Bp.x = D ∧ (∀ ad, A = some ad → ∀ j u, (cellsX L)[j]? = some u → w.cell? (ad.add j) = some u) ∧ ∀ y ∈ L, Lts w w0.heap.size y.A y.x.l ∧ (y.A = none → y.c = 0) := by
    by_cases h0 : 0 < D.length
    · obtain ⟨L, g, off, e, hg, h1, h2, h3⟩ := h.list h0
      refine ⟨L, h1, fun ad e2 j u hj => ?_, h3⟩
      rw [e] at e2
      injection e2 with e2
      subst e2
      rw [Addr.add_lit]
      exact h2 j u hj
    · have e : D = [] := List.length_eq_zero_iff.1 (by omega)
      subst e
      exact ⟨[], rfl, fun ad _ j u hj => by simp [cellsX] at hj, fun y h => by cases h⟩
  have hLl : L.length = D.length := by rw [← hLx, List.length_map]
  have hz := hb0.size
  refine (cloneBox A D.length c (cellsX L) w (by rw [cellsX_len, hLl]) hA hcells (cellsX_one L) hl).mono ?_
  rintro e w' ⟨A', c', rfl, hrow, hb⟩
  have hbb : Below w0.heap.size w0 w' := hb0.trans (hb.mono hz)
  refine ⟨A', c', rfl, ?_, hb⟩
  rcases hrow.2 with ⟨hv, hn⟩ | ⟨g, cap, cur, hv, hg0, hrest⟩
  · injection hv with hv
    exact .inl ⟨hv, List.length_eq_zero_iff.1 hn, hbb⟩
  · injection hv with hv _ hc
    subst hv hc
    exact .inr ⟨g, L, rfl, hLx, ⟨by rw [hLl]; exact hrow.1, .inr ⟨g, c', cur, by rw [hLl], by omega, by rw [hLl]; exact hrest⟩⟩, fun i y hy _ => ⟨(hLf y (List.mem_of_getElem? hy)).1.kept (hb.mono hz), (hLf y (List.mem_of_getElem? hy)).2⟩, fun i y _ h => absurd h (by omega), hbb⟩
section
variable {w0 w w1 : World} {g cap k : Nat} {D : List Bx} {L : List Bp}
/-- another block, of another kind, turns -/
theorem Cb.setz (h : Cb w0 w g cap 0 D L) {z : Nat} (hz : w0.heap.size ≤ z) (hg : z ≠ g) (j : Nat) (u : Value) : Cb w0 (w.setCell ⟨z, j, none⟩ u) g cap 0 D L := by
  have hb : Below w0.heap.size w (w.setCell ⟨z, j, none⟩ u) := (Below.refl _ _).setCell hz u
  refine ⟨h.pts, ?_, fun i y hy hi => ⟨(h.old i y hy hi).1.kept hb, (h.old i y hy hi).2⟩, fun i y _ hi => absurd hi (by omega), h.bel.trans hb⟩
  exact Led.ownsRow_kp h.row (Kq.set w z j u).kp (fun k hk e => by
    simp [Value.ownBlock] at hk
    exact hg (e ▸ hk ▸ rfl))
end
end Go.Proofs.YtchkdidpnjakeaaGreatDoor
