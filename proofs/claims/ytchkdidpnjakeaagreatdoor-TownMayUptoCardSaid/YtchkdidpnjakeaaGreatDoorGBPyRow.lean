/- Parties: rows of them in memory. bank: whose customer somebody is, whose bank; a deal's hold. slices.Clone of papers, fields, faults, boxes, lots: by their cells. -/
import Derived.Test.YtchkdidpnjakeaaGreatDoorGBLz
import Derived.Lib.AppendZeros
import Derived.Deep.QuietTactic
namespace Go.Proofs.YtchkdidpnjakeaaGreatDoor
open Go.RowKit Go.Maps Go.Lib
set_option linter.unusedVariables false
set_option maxRecDepth 100000

def encPy (x : Py) : List Value := [.string x.nm, .string x.bk, .int .i64 x.kd]
def pcs (L : List Py) : List Value := L.flatMap encPy
theorem infoPy : (Tryz.prog.info? 38).map (fun i => (i.zero, i.size, i.bytes)) = some (some (.agg #[.string ⟨#[]⟩, .string ⟨#[]⟩, .int .i64 0]), 3, 40) := by kernel_rfl
theorem pcs_app (L M : List Py) : pcs (L ++ M) = pcs L ++ pcs M := List.flatMap_append
theorem pcs_at (L : List Py) : ∀ (i : Nat) (x : Py), L[i]? = some x → ∀ j, j < 3 → (pcs L)[i * 3 + j]? = (encPy x)[j]? := by
  induction L with
  | nil => intro i x h; simp at h
  | cons y L ih =>
    intro i x h j hj
    unfold pcs at *
    rw [List.flatMap_cons]
    match i, h with
    | 0, h =>
      cases h
      rw [Nat.zero_mul, Nat.zero_add, List.getElem?_append_left (by simpa [encPy] using hj)]
    | i + 1, h =>
      rw [List.getElem?_append_right (by simp [encPy]; omega)]
      have : (i + 1) * 3 + j - (encPy y).length = i * 3 + j := by simp [encPy]; omega
      rw [this]
      exact ih i x h j hj
theorem pcs_one (L : List Py) : ∀ u ∈ pcs L, u.oneCell' = true := by
  intro u hu
  obtain ⟨x, _, hu⟩ := List.mem_flatMap.1 hu
  simp only [encPy, List.mem_cons, List.not_mem_nil, or_false] at hu
  rcases hu with rfl | rfl | rfl <;> rfl
/-- v is a slice of its own, in a block from base on, of the parties L -/
def Po (w : World) (base : Nat) (v : Value) (L : List Py) : Prop := w.ownsRow base 38 3 v L.length (pcs L)
section
variable {w w' : World} {base : Nat} {v : Value} {L : List Py}
theorem Po.lt (h : Po w base v L) {q : Nat} (hq : v.ownBlock = some q) : base ≤ q ∧ q < w.heap.size := by
  rcases h.2 with ⟨h1, _⟩ | ⟨g, cap, cur, h1, h2, h3, _⟩
  · rw [h1] at hq; simp [Value.ownBlock] at hq
  · rw [h1] at hq
    simp [Value.ownBlock] at hq
    subst hq
    exact ⟨h2, (Array.getElem?_eq_some_iff.1 h3).1⟩
theorem Po.keep (h : Po w base v L) (hk : ∀ q, v.ownBlock = some q → w'.heap[q]? = w.heap[q]?) : Po w' base v L := by
  refine ⟨h.1, ?_⟩
  rcases h.2 with h0 | ⟨g, cap, cur, h1, h2, h3, h4⟩
  · exact .inl h0
  · exact .inr ⟨g, cap, cur, h1, h2, (hk g (by rw [h1]; simp [Value.ownBlock])).trans h3, h4⟩
theorem Po.below (h : Po w base v L) (hb : Below w.heap.size w w') : Po w' base v L := h.keep fun q hq => hb.block q (h.lt hq).2
theorem Po.form (h : Po w base v L) : ∃ A c, v = .slice A L.length c := by
  rcases h.2 with ⟨h1, h2⟩ | ⟨g, cap, cur, h1, _⟩
  · exact ⟨none, 0, by rw [h1, h2]⟩
  · exact ⟨_, _, h1⟩
/-- a party behind parties -/
theorem Po.more (ty : TypeId) (h : Po w base v L) (x : Py) (hl : L.length ≤ 100000000) (hbase : base ≤ w.heap.size) :
    ∃ v' w', (Builtin.append_ #[22, 22] ty #[v, .slice (some ⟨w.heap.size, 0, none⟩) 1 1]).run Tryz.prog (w.alloc (.cells #[.string x.nm, .string x.bk, .int .i64 x.kd] 38)) = .ok v' w' ∧ Po w' base v' (L ++ [x]) ∧ (w.alloc (.cells #[.string x.nm, .string x.bk, .int .i64 x.kd] 38)).grownBy w' v.ownBlock ∧ (v'.ownBlock = v.ownBlock ∨ v'.ownBlock = some (w.heap.size + 1)) := by
  obtain ⟨i0, hi0, hz0, hz1, hz2⟩ := info_parts infoPy
  have hb : Below w.heap.size w (w.alloc (.cells #[.string x.nm, .string x.bk, .int .i64 x.kd] 38)) := (Below.refl _ _).alloc (Nat.le_refl _) _
  have hn := heap_alloc_new w (.cells #[.string x.nm, .string x.bk, .int .i64 x.kd] 38)
  obtain ⟨v', w', hr, h2, h3, _, h5⟩ := run_append_own_at (P := Tryz.prog) (w := w.alloc (.cells #[.string x.nm, .string x.bk, .int .i64 x.kd] 38)) base 22 ty 38 i0 _ 3 40 Tryz.underlying22 hi0 hz0 hz1 hz2 rfl (by omega) v L.length (pcs L) (h.below hb) ⟨w.heap.size, 0, none⟩ 1 1 (pcs [x]) rfl (fun j u hu => by
    rw [Addr.add_lit, Nat.zero_add, World.cell?, hn]
    have e : pcs [x] = [.string x.nm, .string x.bk, .int .i64 x.kd] := rfl
    rw [e] at hu
    rcases j with _ | _ | _ | j
    · simpa using hu
    · simpa using hu
    · simpa using hu
    · simp at hu) (pcs_one _) (by unfold maxLen; omega) (by omega) (Nat.le_trans hbase hb.size)
  exact ⟨v', w', hr, by unfold Po; rw [List.length_append, pcs_app]; exact h2, h3, by rw [World.size_alloc] at h5; exact h5⟩
end
/-- parties that stand, below a block -/
def Pys (w : World) (B : Nat) (A : Option Addr) (L : List Py) : Prop := 0 < L.length → ∃ g off, A = some ⟨g, off, none⟩ ∧ g < B ∧ ∀ i x, L[i]? = some x → w.cell? ⟨g, off + i * 3, none⟩ = some (.string x.nm) ∧ w.cell? ⟨g, off + i * 3 + 1, none⟩ = some (.string x.bk) ∧ w.cell? ⟨g, off + i * 3 + 2, none⟩ = some (.int .i64 x.kd)
theorem Pys.keep {w w' : World} {B : Nat} {A : Option Addr} {L : List Py} (h : Pys w B A L) (hk : ∀ p : Addr, p.block < B → w'.cell? p = w.cell? p) : Pys w' B A L := fun hl => by
  obtain ⟨g, off, e, hg, hc⟩ := h hl
  exact ⟨g, off, e, hg, fun i x hx => ⟨(hk _ hg).trans (hc i x hx).1, (hk _ hg).trans (hc i x hx).2.1, (hk _ hg).trans (hc i x hx).2.2⟩⟩
theorem Pys.below {w w' : World} {B : Nat} {A : Option Addr} {L : List Py} (h : Pys w B A L) (hb : Below B w w') : Pys w' B A L := h.keep fun _ hp => hb.cell hp
theorem Pys.at_ {w : World} {B : Nat} {A : Option Addr} {L : List Py} (h : Pys w B A L) {k : Nat} (hk : k < L.length) : ∃ g off, A = some ⟨g, off, none⟩ ∧ g < B ∧ w.cell? ⟨g, off + k * 3, none⟩ = some (.string L[k].nm) ∧ w.cell? ⟨g, off + k * 3 + 1, none⟩ = some (.string L[k].bk) ∧ w.cell? ⟨g, off + k * 3 + 2, none⟩ = some (.int .i64 L[k].kd) := by
  obtain ⟨g, off, e, hg, hc⟩ := h (by omega)
  exact ⟨g, off, e, hg, hc k _ (List.getElem?_eq_getElem hk)⟩
end Go.Proofs.YtchkdidpnjakeaaGreatDoor
namespace Go.Proofs.YtchkdidpnjakeaaGreatDoor
open Go.RowKit Go.Maps Go.Lib
set_option linter.unusedVariables false
set_option maxRecDepth 100000

def custB (K : Kk) (who : ByteArray) : Bool := match K.P who with
  | some y => decide (y.bk = K.nm)
  | none => false
def otherB (K : Kk) (who : ByteArray) : Bool := match K.P who with
  | some y => decide (y.kd = 2) && !decide (who = K.nm)
  | none => false
theorem drewN_below (w : World) (n : Nat) : Below w.heap.size w (w.drewN n) := ⟨rfl, rfl, rfl, Nat.le_refl _, fun _ _ => rfl⟩
section
variable {w : World} {K : Kk} {n m l : Nat} {S : Sb}
set_option maxHeartbeats 1000000 in
theorem cust_any (x : Bk w K n m l S) (who : ByteArray) (hs : who.size ≤ maxLen) : Calls Tryz.prog 184 #[.pointer (some ⟨K.bb, 0, none⟩), .string who] w fun e w' => e = .returned (.bool (custB K who)) ∧ Below w.heap.size w w' := by
  obtain ⟨c0, c1, c2, c3, c4, c5⟩ := x.cell
  have hlk := x.lookP who hs
  have hbl : K.bb < w.heap.size := (Array.getElem?_eq_some_iff.1 x.bank).1
  have hbn : K.bb ≠ w.heap.size := by omega
  obtain ⟨⟨pn, pb, pk⟩, hp⟩ : ∃ y : Py, (K.P who).getD ⟨⟨#[]⟩, ⟨#[]⟩, 0⟩ = y := ⟨_, rfl⟩
  have hb1 : Below w.heap.size w (w.alloc (.cells #[.string pn, .string pb, .int .i64 pk] 38)) := (Below.refl _ _).alloc (Nat.le_refl _) _
  have HB1 := Lib.hid hb1
  have d0 : (w.alloc (.cells #[.string pn, .string pb, .int .i64 pk] 38)).cell? ⟨K.bb, 0, none⟩ = some (.string K.nm) := Lib.cell?_alloc_some _ c0
  rw [hp] at hlk
  have hlk' : (Instr.lookup 66 (.map (some K.pm)) (.string who) true).run Tryz.prog w = .ok (.tuple #[.agg #[.string pn, .string pb, .int .i64 pk], .bool (K.P who).isSome]) w := hlk
  clear hlk hb1 x c1 c2 c3 c5
  cases hP : K.P who with
  | none =>
    have HE : Hid (custB K who = false) := Lib.hid (by unfold custB; rw [hP])
    rw [hP] at hlk'
    simp only [Option.isSome_none] at hlk'
    generalize custB K who = r at *
    clear hp hP
    go_enter Tryz.func184, Tryz.ntmps184
    go_wp2_with fail
    go_quiet (fail)
    generalize hW : ((w.alloc (.cells #[.string pn, .string pb, .int .i64 pk] 38)).drewN nq) = W at *
    have HBW : Hid (Below w.heap.size w W) := Lib.hid (by rw [← hW]; exact HB1.out.trans ((drewN_below _ _).mono HB1.out.size))
    clear hW
    go_wp2_with fail
    go_ret
    exact ⟨by rw [HE.out]; rfl, HBW.out⟩
  | some y =>
    have hy : y = ⟨pn, pb, pk⟩ := by rw [hP] at hp; exact hp
    have HE : Hid (custB K who = (pb.toList == K.nm.toList)) := Lib.hid (by unfold custB; rw [hP, hy, ba_beq])
    rw [hP] at hlk'
    simp only [Option.isSome_some] at hlk'
    have p1 : (w.alloc (.cells #[.string pn, .string pb, .int .i64 pk] 38)).cell? ⟨w.heap.size, 1, none⟩ = some (.string pb) := by simp
    generalize custB K who = r at *
    generalize hq : (pb.toList == K.nm.toList) = q at *
    clear hp hP hy
    go_enter Tryz.func184, Tryz.ntmps184
    go_wp2_with fail
    go_quiet (fail)
    generalize hW : ((w.alloc (.cells #[.string pn, .string pb, .int .i64 pk] 38)).drewN nq) = W at *
    have HBW : Hid (Below w.heap.size w W) := Lib.hid (by rw [← hW]; exact HB1.out.trans ((drewN_below _ _).mono HB1.out.size))
    clear hW
    go_wp2_with fail
    go_ret
    exact ⟨by rw [HE.out]; first | rfl | simp_all, HBW.out⟩
set_option maxHeartbeats 1000000 in
theorem other_any (x : Bk w K n m l S) (who : ByteArray) (hs : who.size ≤ maxLen) : Calls Tryz.prog 185 #[.pointer (some ⟨K.bb, 0, none⟩), .string who] w fun e w' => e = .returned (.bool (otherB K who)) ∧ Below w.heap.size w w' := by
  obtain ⟨c0, c1, c2, c3, c4, c5⟩ := x.cell
  have hlk := x.lookP who hs
  have hbl : K.bb < w.heap.size := (Array.getElem?_eq_some_iff.1 x.bank).1
  have hbn : K.bb ≠ w.heap.size := by omega
  obtain ⟨⟨pn, pb, pk⟩, hp⟩ : ∃ y : Py, (K.P who).getD ⟨⟨#[]⟩, ⟨#[]⟩, 0⟩ = y := ⟨_, rfl⟩
  have HB1 := Lib.hid (show Below w.heap.size w (w.alloc (.cells #[.string pn, .string pb, .int .i64 pk] 38)) from (Below.refl _ _).alloc (Nat.le_refl _) _)
  have d0 : (w.alloc (.cells #[.string pn, .string pb, .int .i64 pk] 38)).cell? ⟨K.bb, 0, none⟩ = some (.string K.nm) := Lib.cell?_alloc_some _ c0
  rw [hp] at hlk
  have hlk' : (Instr.lookup 66 (.map (some K.pm)) (.string who) true).run Tryz.prog w = .ok (.tuple #[.agg #[.string pn, .string pb, .int .i64 pk], .bool (K.P who).isSome]) w := hlk
  clear hlk x c1 c2 c3 c5
  cases hP : K.P who with
  | none =>
    have HE : Hid (otherB K who = false) := Lib.hid (by unfold otherB; rw [hP])
    rw [hP] at hlk'
    simp only [Option.isSome_none] at hlk'
    generalize otherB K who = r at *
    clear hp hP
    go_enter Tryz.func185, Tryz.ntmps185
    go_wp2_with fail
    go_ret
    exact ⟨by rw [HE.out]; rfl, HB1.out⟩
  | some y =>
    have hy : y = ⟨pn, pb, pk⟩ := by rw [hP] at hp; exact hp
    have HE : Hid (otherB K who = (decide (pk = 2) && !(who.toList == K.nm.toList))) := Lib.hid (by unfold otherB; rw [hP, hy, ba_beq])
    rw [hP] at hlk'
    simp only [Option.isSome_some] at hlk'
    have p1 : (w.alloc (.cells #[.string pn, .string pb, .int .i64 pk] 38)).cell? ⟨w.heap.size, 2, none⟩ = some (.int .i64 pk) := by simp
    generalize otherB K who = r at *
    clear hp hP hy
    by_cases hk : pk = 2
    · have b1 : (pk == 2) = true := beq_iff_eq.2 hk
      rw [decide_eq_true hk, Bool.true_and] at HE
      clear hk
      cases hq : who.toList == K.nm.toList with
      | true =>
        have b2 : (who.toList != K.nm.toList) = false := by simp [bne, hq]
        rw [hq] at HE
        go_enter Tryz.func185, Tryz.ntmps185
        go_wp2_with fail
        go_ret
        exact ⟨by rw [HE.out]; rfl, HB1.out⟩
      | false =>
        have b2 : (who.toList != K.nm.toList) = true := by simp [bne, hq]
        rw [hq] at HE
        go_enter Tryz.func185, Tryz.ntmps185
        go_wp2_with fail
        go_ret
        exact ⟨by rw [HE.out]; rfl, HB1.out⟩
    · have b1 : (pk == 2) = false := beq_eq_false_iff_ne.2 hk
      rw [decide_eq_false hk, Bool.false_and] at HE
      clear hk
      go_enter Tryz.func185, Tryz.ntmps185
      go_wp2_with fail
      go_ret
      exact ⟨by rw [HE.out]; rfl, HB1.out⟩
end
end Go.Proofs.YtchkdidpnjakeaaGreatDoor
namespace Go.Proofs.YtchkdidpnjakeaaGreatDoor
open Go.RowKit Go.Maps Go.Lib
set_option linter.unusedVariables false
set_option maxRecDepth 100000

theorem infoCDoc : (Tryz.prog.info? 131).map (fun i => (i.zero, i.size, i.bytes)) = some (some (.agg #[.int .i64 0, .string ⟨#[]⟩, .string ⟨#[]⟩, .slice none 0 0]), 4, 64) := by kernel_rfl
set_option maxHeartbeats 1000000 in
theorem cloneDoc (A : Option Addr) (n c : Nat) (vs : List Value) (w : World) (hl : vs.length = n * 4) (hA : A = none → n = 0) (hc : ∀ ad, A = some ad → ∀ j u, vs[j]? = some u → w.cell? (ad.add j) = some u) (h1 : ∀ u ∈ vs, u.oneCell' = true) (hn : n ≤ 100000000) :
    Calls Tryz.prog 71 #[.slice A n c] w fun e w' => ∃ A' c', e = .returned (.slice A' n c') ∧ w'.ownsRow w.heap.size 131 4 (.slice A' n c') n vs ∧ Below w.heap.size w w' := by
  have q22 : ∀ (w : World) (a : Option Addr) (n c n' c' : Nat), (binOp .eql 76 (.slice a n c) (.slice none n' c')).run Tryz.prog w = .ok (.bool a.isNone) w := fun w a n c n' c' => Lib.run_eql_slice_nil w _ _ a n c n' c' Tryz.underlying76
  cases A with
  | none =>
    have h0 := hA rfl
    subst h0
    have hv : vs = [] := List.length_eq_zero_iff.1 (by omega)
    subst hv
    go_enter Tryz.func71, Tryz.ntmps71
    go_wp2
    go_ret
    exact ⟨none, 0, rfl, World.ownsRow_nil _ _ _ _, Below.refl _ _⟩
  | some ad =>
    obtain ⟨i0, hi, hz0, hz1, hz2⟩ := info_parts infoCDoc
    have Hc := Lib.hid (hc ad rfl)
    clear hc
    go_enter Tryz.func71, Tryz.ntmps71
    go_wp2_with (at_builtin; refine wpList_append_own _ rfl _ _ 76 rfl w.heap.size 131 i0 _ 4 64 Tryz.underlying76 hi hz0 hz1 hz2 rfl (by decide) _ _ _ rfl (World.ownsRow_made w #[] 0 (Nat.le_refl _) (Nat.zero_le _) rfl) ad n c vs rfl ?qc1 ?qc2 ?qc3 ?qc4 ?qc5 ?qc6 ?_)
    case qc1 => exact hl
    case qc2 =>
      intro j u hj
      exact Lib.cell?_alloc_some _ (Hc.out j u hj)
    case qc3 => exact h1
    case qc4 => unfold maxLen; omega
    case qc5 => omega
    case qc6 => simp
    intro v' w1 hown hgrow hnil
    go_wp2
    go_ret
    have hown' : w1.ownsRow w.heap.size 131 4 v' n vs := by simpa using hown
    obtain ⟨A', c', rfl⟩ : ∃ A' c', v' = .slice A' n c' := by
      rcases hown'.2 with ⟨h1, hn⟩ | ⟨g, cap, cur, he, _⟩
      · exact ⟨none, 0, by rw [h1, hn]⟩
      · exact ⟨_, _, he⟩
    exact ⟨A', c', rfl, hown', ((Below.refl _ w).alloc (Nat.le_refl _) _).grown hgrow (by simp) (by intro k hk; simp [Value.ownBlock] at hk; omega)⟩
theorem infoCFld : (Tryz.prog.info? 134).map (fun i => (i.zero, i.size, i.bytes)) = some (some (.agg #[.string ⟨#[]⟩, .string ⟨#[]⟩]), 2, 32) := by kernel_rfl
set_option maxHeartbeats 1000000 in
theorem cloneFld (A : Option Addr) (n c : Nat) (vs : List Value) (w : World) (hl : vs.length = n * 2) (hA : A = none → n = 0) (hc : ∀ ad, A = some ad → ∀ j u, vs[j]? = some u → w.cell? (ad.add j) = some u) (h1 : ∀ u ∈ vs, u.oneCell' = true) (hn : n ≤ 100000000) :
    Calls Tryz.prog 72 #[.slice A n c] w fun e w' => ∃ A' c', e = .returned (.slice A' n c') ∧ w'.ownsRow w.heap.size 134 2 (.slice A' n c') n vs ∧ Below w.heap.size w w' := by
  have q22 : ∀ (w : World) (a : Option Addr) (n c n' c' : Nat), (binOp .eql 129 (.slice a n c) (.slice none n' c')).run Tryz.prog w = .ok (.bool a.isNone) w := fun w a n c n' c' => Lib.run_eql_slice_nil w _ _ a n c n' c' Tryz.underlying129
  cases A with
  | none =>
    have h0 := hA rfl
    subst h0
    have hv : vs = [] := List.length_eq_zero_iff.1 (by omega)
    subst hv
    go_enter Tryz.func72, Tryz.ntmps72
    go_wp2
    go_ret
    exact ⟨none, 0, rfl, World.ownsRow_nil _ _ _ _, Below.refl _ _⟩
  | some ad =>
    obtain ⟨i0, hi, hz0, hz1, hz2⟩ := info_parts infoCFld
    have Hc := Lib.hid (hc ad rfl)
    clear hc
    go_enter Tryz.func72, Tryz.ntmps72
    go_wp2_with (at_builtin; refine wpList_append_own _ rfl _ _ 129 rfl w.heap.size 134 i0 _ 2 32 Tryz.underlying129 hi hz0 hz1 hz2 rfl (by decide) _ _ _ rfl (World.ownsRow_made w #[] 0 (Nat.le_refl _) (Nat.zero_le _) rfl) ad n c vs rfl ?qc1 ?qc2 ?qc3 ?qc4 ?qc5 ?qc6 ?_)
    case qc1 => exact hl
    case qc2 =>
      intro j u hj
      exact Lib.cell?_alloc_some _ (Hc.out j u hj)
    case qc3 => exact h1
    case qc4 => unfold maxLen; omega
    case qc5 => omega
    case qc6 => simp
    intro v' w1 hown hgrow hnil
    go_wp2
    go_ret
    have hown' : w1.ownsRow w.heap.size 134 2 v' n vs := by simpa using hown
    obtain ⟨A', c', rfl⟩ : ∃ A' c', v' = .slice A' n c' := by
      rcases hown'.2 with ⟨h1, hn⟩ | ⟨g, cap, cur, he, _⟩
      · exact ⟨none, 0, by rw [h1, hn]⟩
      · exact ⟨_, _, he⟩
    exact ⟨A', c', rfl, hown', ((Below.refl _ w).alloc (Nat.le_refl _) _).grown hgrow (by simp) (by intro k hk; simp [Value.ownBlock] at hk; omega)⟩
theorem infoCBox : (Tryz.prog.info? 89).map (fun i => (i.zero, i.size, i.bytes)) = some (some (.agg #[.string ⟨#[]⟩, .int .i64 0, .slice none 0 0]), 3, 48) := by kernel_rfl
set_option maxHeartbeats 1000000 in
theorem cloneBox (A : Option Addr) (n c : Nat) (vs : List Value) (w : World) (hl : vs.length = n * 3) (hA : A = none → n = 0) (hc : ∀ ad, A = some ad → ∀ j u, vs[j]? = some u → w.cell? (ad.add j) = some u) (h1 : ∀ u ∈ vs, u.oneCell' = true) (hn : n ≤ 100000000) :
    Calls Tryz.prog 45 #[.slice A n c] w fun e w' => ∃ A' c', e = .returned (.slice A' n c') ∧ w'.ownsRow w.heap.size 89 3 (.slice A' n c') n vs ∧ Below w.heap.size w w' := by
  have q22 : ∀ (w : World) (a : Option Addr) (n c n' c' : Nat), (binOp .eql 70 (.slice a n c) (.slice none n' c')).run Tryz.prog w = .ok (.bool a.isNone) w := fun w a n c n' c' => Lib.run_eql_slice_nil w _ _ a n c n' c' Tryz.underlying70
  cases A with
  | none =>
    have h0 := hA rfl
    subst h0
    have hv : vs = [] := List.length_eq_zero_iff.1 (by omega)
    subst hv
    go_enter Tryz.func45, Tryz.ntmps45
    go_wp2
    go_ret
    exact ⟨none, 0, rfl, World.ownsRow_nil _ _ _ _, Below.refl _ _⟩
  | some ad =>
    obtain ⟨i0, hi, hz0, hz1, hz2⟩ := info_parts infoCBox
    have Hc := Lib.hid (hc ad rfl)
    clear hc
    go_enter Tryz.func45, Tryz.ntmps45
    go_wp2_with (at_builtin; refine wpList_append_own _ rfl _ _ 70 rfl w.heap.size 89 i0 _ 3 48 Tryz.underlying70 hi hz0 hz1 hz2 rfl (by decide) _ _ _ rfl (World.ownsRow_made w #[] 0 (Nat.le_refl _) (Nat.zero_le _) rfl) ad n c vs rfl ?qc1 ?qc2 ?qc3 ?qc4 ?qc5 ?qc6 ?_)
    case qc1 => exact hl
    case qc2 =>
      intro j u hj
      exact Lib.cell?_alloc_some _ (Hc.out j u hj)
    case qc3 => exact h1
    case qc4 => unfold maxLen; omega
    case qc5 => omega
    case qc6 => simp
    intro v' w1 hown hgrow hnil
    go_wp2
    go_ret
    have hown' : w1.ownsRow w.heap.size 89 3 v' n vs := by simpa using hown
    obtain ⟨A', c', rfl⟩ : ∃ A' c', v' = .slice A' n c' := by
      rcases hown'.2 with ⟨h1, hn⟩ | ⟨g, cap, cur, he, _⟩
      · exact ⟨none, 0, by rw [h1, hn]⟩
      · exact ⟨_, _, he⟩
    exact ⟨A', c', rfl, hown', ((Below.refl _ w).alloc (Nat.le_refl _) _).grown hgrow (by simp) (by intro k hk; simp [Value.ownBlock] at hk; omega)⟩
theorem infoCLot : (Tryz.prog.info? 91).map (fun i => (i.zero, i.size, i.bytes)) = some (some (.agg #[.string ⟨#[]⟩, .int .i64 0]), 2, 24) := by kernel_rfl
set_option maxHeartbeats 1000000 in
theorem cloneLot (A : Option Addr) (n c : Nat) (vs : List Value) (w : World) (hl : vs.length = n * 2) (hA : A = none → n = 0) (hc : ∀ ad, A = some ad → ∀ j u, vs[j]? = some u → w.cell? (ad.add j) = some u) (h1 : ∀ u ∈ vs, u.oneCell' = true) (hn : n ≤ 100000000) :
    Calls Tryz.prog 46 #[.slice A n c] w fun e w' => ∃ A' c', e = .returned (.slice A' n c') ∧ w'.ownsRow w.heap.size 91 2 (.slice A' n c') n vs ∧ Below w.heap.size w w' := by
  have q22 : ∀ (w : World) (a : Option Addr) (n c n' c' : Nat), (binOp .eql 87 (.slice a n c) (.slice none n' c')).run Tryz.prog w = .ok (.bool a.isNone) w := fun w a n c n' c' => Lib.run_eql_slice_nil w _ _ a n c n' c' Tryz.underlying87
  cases A with
  | none =>
    have h0 := hA rfl
    subst h0
    have hv : vs = [] := List.length_eq_zero_iff.1 (by omega)
    subst hv
    go_enter Tryz.func46, Tryz.ntmps46
    go_wp2
    go_ret
    exact ⟨none, 0, rfl, World.ownsRow_nil _ _ _ _, Below.refl _ _⟩
  | some ad =>
    obtain ⟨i0, hi, hz0, hz1, hz2⟩ := info_parts infoCLot
    have Hc := Lib.hid (hc ad rfl)
    clear hc
    go_enter Tryz.func46, Tryz.ntmps46
    go_wp2_with (at_builtin; refine wpList_append_own _ rfl _ _ 87 rfl w.heap.size 91 i0 _ 2 24 Tryz.underlying87 hi hz0 hz1 hz2 rfl (by decide) _ _ _ rfl (World.ownsRow_made w #[] 0 (Nat.le_refl _) (Nat.zero_le _) rfl) ad n c vs rfl ?qc1 ?qc2 ?qc3 ?qc4 ?qc5 ?qc6 ?_)
    case qc1 => exact hl
    case qc2 =>
      intro j u hj
      exact Lib.cell?_alloc_some _ (Hc.out j u hj)
    case qc3 => exact h1
    case qc4 => unfold maxLen; omega
    case qc5 => omega
    case qc6 => simp
    intro v' w1 hown hgrow hnil
    go_wp2
    go_ret
    have hown' : w1.ownsRow w.heap.size 91 2 v' n vs := by simpa using hown
    obtain ⟨A', c', rfl⟩ : ∃ A' c', v' = .slice A' n c' := by
      rcases hown'.2 with ⟨h1, hn⟩ | ⟨g, cap, cur, he, _⟩
      · exact ⟨none, 0, by rw [h1, hn]⟩
      · exact ⟨_, _, he⟩
    exact ⟨A', c', rfl, hown', ((Below.refl _ w).alloc (Nat.le_refl _) _).grown hgrow (by simp) (by intro k hk; simp [Value.ownBlock] at hk; omega)⟩
end Go.Proofs.YtchkdidpnjakeaaGreatDoor
