/- What AuditBegins needs beside the walk: two rows of moves, what was sent and got. -/
import Derived.Test.YtooeelaobmhifaaDoorARemitsLaw
namespace Go.Proofs.YtooeelaobmhifaaDoor
open Go.RowKit Go.Maps Go.Lib
set_option linter.unusedVariables false
set_option maxRecDepth 100000

def Mv.cells (x : Mv) : List Value := [.int .i16 x.n, .bool x.d, .int .u8 x.a]
def cellsV (T : List Mv) : List Value := T.flatMap Mv.cells
theorem cellsV_snoc (T : List Mv) (t : Mv) : cellsV (T ++ [t]) = cellsV T ++ t.cells := by simp [cellsV]
theorem cellsV_at : ∀ (T : List Mv) (i : Nat) (t : Mv), T[i]? = some t → (cellsV T)[i * 3]? = some (.int .i16 t.n) ∧ (cellsV T)[i * 3 + 1]? = some (.bool t.d) ∧ (cellsV T)[i * 3 + 2]? = some (.int .u8 t.a)
  | [], i, t, h => by simp at h
  | u :: T, 0, t, h => by simp at h; subst h; exact ⟨rfl, rfl, rfl⟩
  | u :: T, i + 1, t, h => by
    have := cellsV_at T i t (by simpa using h)
    have e : cellsV (u :: T) = .int .i16 u.n :: .bool u.d :: .int .u8 u.a :: cellsV T := rfl
    rw [e]
    have e0 : (i + 1) * 3 = i * 3 + 1 + 1 + 1 := by omega
    have e1 : (i + 1) * 3 + 1 = i * 3 + 1 + 1 + 1 + 1 := by omega
    have e2 : (i + 1) * 3 + 2 = i * 3 + 2 + 1 + 1 + 1 := by omega
    rw [e1, e2, e0]
    exact this
theorem cellsV_set : ∀ (T : List Mv) (k : Nat) (t : Mv) (z : Int), T[k]? = some t → (cellsV T).set (k * 3) (.int .i16 z) = cellsV (T.set k ⟨z, t.d, t.a⟩)
  | [], k, t, z, h => by simp at h
  | x :: T, 0, t, z, h => by simp at h; subst h; simp [cellsV, Mv.cells]
  | x :: T, k + 1, t, z, h => by
    have := cellsV_set T k t z (by simpa using h)
    have e : cellsV (x :: T) = .int .i16 x.n :: .bool x.d :: .int .u8 x.a :: cellsV T := rfl
    have e1 : (k + 1) * 3 = k * 3 + 1 + 1 + 1 := by omega
    rw [e, e1, List.set_cons_succ, List.set_cons_succ, List.set_cons_succ, this]
    rfl
theorem move_info : (Tryd.prog.info? 37).map (fun i => (i.zero, i.size, i.bytes)) = some (some (.agg #[.int .i16 0, .bool false, .int .u8 0]), 3, 4) := by kernel_rfl
theorem Rm.of_row {w : World} {base g cap : Nat} {T : List Mv} (h : w.ownsRow base 37 3 (.slice (some ⟨g, 0, none⟩) T.length cap) T.length (cellsV T)) : Rm w w.heap.size (some ⟨g, 0, none⟩) T := fun hl => by
  refine ⟨g, 0, rfl, (h.lt g rfl).2, fun i x hx => ?_⟩
  have hi := (List.getElem?_eq_some_iff.1 hx).1
  obtain ⟨h1, h2, h3⟩ := cellsV_at T i x hx
  rw [Nat.zero_add, h.cellAt _ (by omega), h.cellAt _ (by omega), h.cellAt _ (by omega)]
  exact ⟨h1, h2, h3⟩
/-- two rows of moves, apart -/
structure Tw (w wr : World) (ga ca gb cb : Nat) (al bs : List Mv) : Prop where
  ra : wr.ownsRow w.heap.size 37 3 (.slice (some ⟨ga, 0, none⟩) al.length ca) al.length (cellsV al)
  rb : wr.ownsRow w.heap.size 37 3 (.slice (some ⟨gb, 0, none⟩) bs.length cb) bs.length (cellsV bs)
  ne : ga ≠ gb
  bel : Below w.heap.size w wr
section
variable {w wr w' : World} {ga ca gb cb g c : Nat} {al bs : List Mv} {m : Mv}
theorem Tw.alloc (h : Tw w wr ga ca gb cb al bs) (o : Obj) : Tw w (wr.alloc o) ga ca gb cb al bs := ⟨h.ra.alloc o, h.rb.alloc o, h.ne, h.bel.alloc h.bel.size o⟩
theorem Tw.below (h : Tw w wr ga ca gb cb al bs) (hb : Below wr.heap.size wr w') : Tw w w' ga ca gb cb al bs :=
  ⟨ownsRow_kp h.ra (Kp.of_below (fun _ => False) hb) (fun _ _ e => e), ownsRow_kp h.rb (Kp.of_below (fun _ => False) hb) (fun _ _ e => e), h.ne, h.bel.trans (hb.mono h.bel.size)⟩
theorem Tw.appA (h : Tw w wr ga ca gb cb al bs) (hown : w'.ownsRow w.heap.size 37 3 (.slice (some ⟨g, 0, none⟩) (al.length + 1) c) (al.length + 1) (cellsV al ++ m.cells)) (hg : wr.grownBy w' (some ga)) (hl : some ga = some g ∨ g = wr.heap.size) : Tw w w' g c gb cb (al ++ [m]) bs := by
  have lb := h.rb.lt gb rfl
  have la := h.ra.lt ga rfl
  refine ⟨by rw [cellsV_snoc]; simpa using hown, ownsRow_kp h.rb (Kp.of_grown hg) (fun k hk e => h.ne (by simp [Value.ownBlock] at hk; injection e with e; omega)), ?_, h.bel.grown hg h.bel.size (fun k hk => by cases hk; exact la.1)⟩
  rintro rfl
  rcases hl with e | e
  · injection e with e; exact h.ne e
  · omega
theorem Tw.appB (h : Tw w wr ga ca gb cb al bs) (hown : w'.ownsRow w.heap.size 37 3 (.slice (some ⟨g, 0, none⟩) (bs.length + 1) c) (bs.length + 1) (cellsV bs ++ m.cells)) (hg : wr.grownBy w' (some gb)) (hl : some gb = some g ∨ g = wr.heap.size) : Tw w w' ga ca g c al (bs ++ [m]) := by
  have lb := h.rb.lt gb rfl
  have la := h.ra.lt ga rfl
  refine ⟨ownsRow_kp h.ra (Kp.of_grown hg) (fun k hk e => h.ne (by simp [Value.ownBlock] at hk; injection e with e; omega)), by rw [cellsV_snoc]; simpa using hown, ?_, h.bel.grown hg h.bel.size (fun k hk => by cases hk; exact lb.1)⟩
  rintro rfl
  rcases hl with e | e
  · injection e with e; exact h.ne e.symm
  · omega
theorem Tw.set (h : Tw w wr ga ca gb cb al bs) {k : Nat} {t : Mv} (hk : bs[k]? = some t) (z : Int) : Tw w (wr.setCell ⟨gb, k * 3, none⟩ (.int .i16 z)) ga ca gb cb al (bs.set k ⟨z, t.d, t.a⟩) := by
  have hst := h.rb.stored (k * 3) (.int .i16 z)
  refine ⟨ownsRow_setCell_other h.ra (a := ⟨gb, k * 3, none⟩) (by simp [Value.ownBlock]; exact h.ne) _, ?_, h.ne, h.bel.setCell (p := ⟨gb, k * 3, none⟩) (h.rb.lt gb rfl).1 _⟩
  have := hst.1
  rw [cellsV_set bs k t z hk] at this
  simpa using this
end
/-- a booked ledger that lies from B on -/
structure Be (w : World) (B p : Nat) (names : List ByteArray) (ms : List Mv) : Prop where
  ldg : ∃ base L, B ≤ base ∧ Ldg w base p L ∧ L.map (fun x => x.pt.ents) = ms.map (entsOf names)
theorem Be.bd {w : World} {B p : Nat} {names : List ByteArray} {ms : List Mv} (h : Be w B p names ms) : Bd w p names ms := by
  obtain ⟨base, L, _, h1, h2⟩ := h.ldg
  exact ⟨base, L, h1, h2⟩
theorem Be.below {w w' : World} {B p : Nat} {names : List ByteArray} {ms : List Mv} (h : Be w B p names ms) (hb : Below w.heap.size w w') : Be w' B p names ms := by
  obtain ⟨base, L, h0, h1, h2⟩ := h.ldg
  exact ⟨base, L, h0, h1.below hb, h2⟩
theorem Be.set {w : World} {B p : Nat} {names : List ByteArray} {ms : List Mv} (h : Be w B p names ms) {a : Addr} (ha : a.block < B) (u : Value) : Be (w.setCell a u) B p names ms := by
  obtain ⟨base, L, h0, h1, h2⟩ := h.ldg
  obtain ⟨b, n, G, pv, hv, hl⟩ := h1.led
  exact ⟨base, L, h0, ⟨⟨b, n, G, pv, hv, hl.kp (S := fun k => k = a.block) ⟨rfl, rfl, rfl, by simp, fun k _ hn => heap_setCell_other w a k u hn⟩ (fun k h1 _ e => by omega)⟩, h1.few, h1.fine⟩, h2⟩
theorem booked_be (names : List ByteArray) (ms : List Mv) (Am An : Option Addr) (cm cn : Nat) (w : World) (hN : Nm names) (hM : ∀ m ∈ ms, m.Fine) (hl : ms.length ≤ 30) (hRm : Rm w w.heap.size Am ms) (hRn : Rs w w.heap.size An names) :
    Calls Tryd.prog 6 #[.slice Am ms.length cm, .slice An names.length cn] w fun e w' => ∃ p, e = .returned (.pointer (some ⟨p, 0, none⟩)) ∧ Be w' w.heap.size p names ms ∧ Below w.heap.size w w' :=
  (booked_any names ms Am An cm cn w hN hM hl hRm hRn).mono fun e w' ⟨he, hv, hB⟩ => by
    obtain ⟨n, G, pv, L, h1, h2, _, _⟩ := hB.led
    exact ⟨_, he, ⟨_, L, Nat.le_refl _, ldg_of h1 h2 (by simp; omega) (ents_fine hN hM), h2⟩, hB.bel⟩

/-! what is sent, what is got -/
def namesV : List ByteArray := [vtT]
def namesF : List ByteArray := [nfT]
theorem nmV : Nm namesV := nm_of [[118, 111, 115, 116, 114, 111, 58, 116, 111]] (by decide) (by decide) (by decide) (by decide)
theorem nmF : Nm namesF := nm_of [[110, 111, 115, 116, 114, 111, 58, 102, 114, 111, 109]] (by decide) (by decide) (by decide) (by decide)
theorem vostro_to : vostroT toT = vtT := by apply ByteArray.ext; simp [vostroT, toT, vtT, ByteArray.data_append]
theorem nostro_from : nostroT fromT = nfT := by apply ByteArray.ext; simp [nostroT, fromT, nfT, ByteArray.data_append]
theorem x_vt : xT ≠ vtT := bytes_ne (l := [120]) (k := [118, 111, 115, 116, 114, 111, 58, 116, 111]) (by decide)
theorem x_nf : xT ≠ nfT := bytes_ne (l := [120]) (k := [110, 111, 115, 116, 114, 111, 58, 102, 114, 111, 109]) (by decide)
def upM (r : Nat) : Mv := ⟨(r : Int) + 1, false, 0⟩
def downM (r : Nat) : Mv := ⟨-(r : Int) - 1, false, 0⟩
theorem sent_one (r : Nat) : movesE (vostroT toT) 1 (entsOf namesV (upM r)) = [⟨eurT, (r : Int) + 1⟩] := by
  show movesE (vostroT toT) 1 (two vtT xT eurT ((r : Int) + 1) (-((r : Int) + 1))) = _
  rw [movesE_two, counts_is, counts_is, vostro_to]
  have h : (0 : Int) < (r : Int) + 1 := by omega
  simp [x_vt, h]
theorem got_one (z : Int) (hz : z < 0) : movesE (nostroT fromT) (-1) (entsOf namesF ⟨z, false, 0⟩) = [⟨eurT, -z⟩] := by
  show movesE (nostroT fromT) (-1) (two nfT xT eurT z (-z)) = _
  rw [movesE_two, counts_is, counts_is, nostro_from]
  simp [x_nf, hz]
theorem sent_all (rs : List Nat) : ((rs.map upM).map (entsOf namesV)).flatMap (movesE (vostroT toT) 1) = rs.map fun r : Nat => ⟨eurT, (r : Int) + 1⟩ := by
  induction rs with
  | nil => rfl
  | cons r rs ih =>
    simp only [List.map_cons, List.flatMap_cons, ih, sent_one]
    rfl
theorem got_all (ms : List Mv) (h : ∀ m ∈ ms, m.n < 0 ∧ m.d = false ∧ m.a = 0) : (ms.map (entsOf namesF)).flatMap (movesE (nostroT fromT) (-1)) = ms.map fun m => ⟨eurT, -m.n⟩ := by
  induction ms with
  | nil => rfl
  | cons m ms ih =>
    obtain ⟨h1, h2, h3⟩ := h m (by simp)
    obtain ⟨n, d, a⟩ := m
    simp only at h1 h2 h3
    subst h2 h3
    rw [List.map_cons, List.flatMap_cons, ih (fun x hx => h x (by simp [hx])), got_one n h1]
    rfl
theorem bad_take : ∀ (s : List Mo) (i m : Nat), firstBad i s (s.take m) = none
  | [], i, m => by simp [firstBad]
  | x :: s, i, 0 => by simp [firstBad]
  | x :: s, i, m + 1 => by simp [firstBad, eqM_self, bad_take s (i + 1) m]
theorem bad_set : ∀ (s : List Mo) (i m k : Nat) (y : Mo), k < m → (h : k < s.length) → eqM s[k] y = false → firstBad i s ((s.take m).set k y) = some (i + k)
  | [], i, m, k, y, _, h, _ => by simp at h
  | x :: s, i, 0, k, y, h, _, _ => by omega
  | x :: s, i, m + 1, 0, y, _, _, he => by
    simp at he
    simp [firstBad, he]
  | x :: s, i, m + 1, k + 1, y, h, hs, he => by
    have := bad_set s (i + 1) m k y (by omega) (by simpa using hs) (by simpa using he)
    simp [firstBad, eqM_self, this]
    omega
def downs (rs : List Nat) (m : Nat) : List Mv := (rs.take m).map downM
theorem down_neg (rs : List Nat) (m : Nat) : ∀ x ∈ downs rs m, x.n < 0 ∧ x.d = false ∧ x.a = 0 := by
  intro x hx
  obtain ⟨r, _, rfl⟩ := List.mem_map.1 hx
  exact ⟨by simp only [downM]; omega, rfl, rfl⟩
theorem lines_none (rs : List Nat) (m : Nat) : linesB namesV namesF (rs.map upM) (downs rs m) = [] := by
  unfold linesB
  rw [sent_all, got_all _ (down_neg rs m)]
  have : (downs rs m).map (fun x => (⟨eurT, -x.n⟩ : Mo)) = (rs.map fun r : Nat => (⟨eurT, (r : Int) + 1⟩ : Mo)).take m := by
    unfold downs
    rw [← List.map_take, List.map_map]
    apply List.map_congr_left
    intro r _
    simp only [Function.comp, downM, Mo.mk.injEq, true_and]
    omega
  rw [this, bad_take]
  rfl
theorem lines_one (rs : List Nat) (m k : Nat) (hm : m ≤ rs.length) (hk : k < m) (z : Int) (hz : z = -((rs[k]'(by omega) : Nat) : Int) - 1 - 1) : (linesB namesV namesF (rs.map upM) ((downs rs m).set k ⟨z, false, 0⟩)).length = 1 := by
  have hkr : k < rs.length := by omega
  unfold linesB
  rw [sent_all, got_all _ (by
    intro x hx
    rcases List.mem_or_eq_of_mem_set hx with hx | rfl
    · exact down_neg rs m x hx
    · exact ⟨by simp only; omega, rfl, rfl⟩)]
  have : ((downs rs m).set k ⟨z, false, 0⟩).map (fun x => (⟨eurT, -x.n⟩ : Mo)) = ((rs.map fun r : Nat => (⟨eurT, (r : Int) + 1⟩ : Mo)).take m).set k ⟨eurT, -z⟩ := by
    unfold downs
    rw [List.map_set, ← List.map_take, List.map_map]
    congr 1
    apply List.map_congr_left
    intro r _
    simp only [Function.comp, downM, Mo.mk.injEq, true_and]
    omega
  rw [this, bad_set _ 0 m k _ hk (by simpa using hkr) (by
    rw [eqM_is]
    simp
    omega)]
  rfl
end Go.Proofs.YtooeelaobmhifaaDoor
