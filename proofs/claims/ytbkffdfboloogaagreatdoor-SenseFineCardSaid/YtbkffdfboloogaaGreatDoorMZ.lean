/- The document's Check: what stands while the needs are looked at. The document's Check: its walk (printed by genrefcheck.py). -/
import Derived.Test.YtbkffdfboloogaaGreatDoorMQ
import Derived.Test.YtbkffdfboloogaaGreatDoorMV
import Derived.Test.YtbkffdfboloogaaGreatDoorFRefWrong
import Derived.Test.YtbkffdfboloogaaGreatDoorFRefClash
import Derived.Test.YtbkffdfboloogaaGreatDoorFPrint
import Derived.BigQuiet
namespace Go.Proofs.YtbkffdfboloogaaGreatDoor
open Go.RowKit Go.Maps Go.Lib
set_option linter.unusedVariables false
set_option maxRecDepth 100000

/-- no block but rows of faults has turned -/
def Okf (w w' : World) : Prop := ∀ (q : Nat) (o : Obj), w.heap[q]? = some o → (∀ cs fz, o ≠ .cells cs 52 fz) → w'.heap[q]? = some o
theorem Okf.of_below {w w' : World} (h : Below w.heap.size w w') : Okf w w' := fun q o hq _ => (h.block q (Array.getElem?_eq_some_iff.1 hq).1).trans hq
theorem Okf.trans {a b c : World} (h : Okf a b) (k : Okf b c) : Okf a c := fun q o hq ho => k q o (h q o hq ho) ho
theorem Fw.not_own {w : World} {base : Nat} {v : Value} {L : List Ft} (h : Fw w base v L) {q : Nat} {o : Obj} (hq : w.heap[q]? = some o) (ho : ∀ cs fz, o ≠ .cells cs 52 fz) : v.ownBlock ≠ some q := fun e => by
  rcases h.2 with ⟨g1, _⟩ | ⟨g, cap, cur, g1, g2, g3, _⟩
  · rw [g1] at e; simp [Value.ownBlock] at e
  · rw [g1] at e
    simp [Value.ownBlock] at e
    subst e
    rw [hq] at g3
    injection g3 with g3
    exact ho _ _ g3
/-- faults put so far, in the world W; v: their row -/
structure Rk (w : World) (c : Cr) (A : Option Addr) (cp K : Nat) (P : Prop) (v : Value) (W : World) : Prop where
  row : ∃ L, Fw W (w.heap.size + 1) v L ∧ (L ≠ [] ↔ P) ∧ L.length ≤ K
  below : Below w.heap.size w W
  box : W.heap[w.heap.size]? = some (.cells (crA c A cp) 26 (0, 0))
section
variable {w : World} {c : Cr} {A : Option Addr} {cp K : Nat} {P : Prop} {v : Value} {W W' : World}
theorem Rk.size (h : Rk w c A cp K P v W) : w.heap.size + 1 ≤ W.heap.size := (Array.getElem?_eq_some_iff.1 h.box).1
theorem Rk.old (h : Rk w c A cp K P v W) (hb : Below W.heap.size W W') : Rk w c A cp K P v W' := by
  obtain ⟨⟨L, h1, h2, h3⟩, h4, h5⟩ := h
  exact ⟨⟨L, h1.below hb, h2, h3⟩, h4.trans (hb.mono h4.size), (hb.block _ (Array.getElem?_eq_some_iff.1 h5).1).trans h5⟩
theorem Rk.more (h : Rk w c A cp K P v W) {K' : Nat} (hK : K ≤ K') : Rk w c A cp K' P v W := by
  obtain ⟨⟨L, h1, h2, h3⟩, h4, h5⟩ := h
  exact ⟨⟨L, h1, h2, by omega⟩, h4, h5⟩
theorem Rk.iff (h : Rk w c A cp K P v W) {P' : Prop} (e : P ↔ P') : Rk w c A cp K P' v W := by
  obtain ⟨⟨L, h1, h2, h3⟩, h4, h5⟩ := h
  exact ⟨⟨L, h1, h2.trans e, h3⟩, h4, h5⟩
theorem Rk.put (h : Rk w c A cp K P v W) (hK : K ≤ 100000) (x : Ft) :
    Calls Tryz.prog 18 #[v, .agg #[.int .i64 x.1, .int .i64 x.2.1, .string x.2.2.1, .int .i64 x.2.2.2]] W fun e w' => ∃ v', e = .returned v' ∧ Rk w c A cp (K + 1) True v' w' ∧ Okf W w' := by
  have hz := h.size
  obtain ⟨⟨L, h1, h2, h3⟩, h4, h5⟩ := h
  refine (put_any W (w.heap.size + 1) v L x h1 (by omega) (by omega)).mono ?_
  rintro e w' ⟨v', L', rfl, t1, t2, t3, t4, t5, t6⟩
  have hok : Okf W w' := fun q o hq ho => (t4.out q (Array.getElem?_eq_some_iff.1 hq).1 (h1.not_own hq ho)).trans hq
  exact ⟨v', rfl, ⟨⟨L', t1, ⟨fun _ => trivial, fun _ => t2⟩, by omega⟩, h4.trans (t5.out.mono (by omega)), hok _ _ h5 (fun cs fz e => by injection e with _ e _; exact absurd e (by decide))⟩, hok⟩
theorem Rk.form (h : Rk w c A cp K P v W) : ∃ Av n cv, v = .slice Av n cv := by
  obtain ⟨⟨L, h1, h2, h3⟩, h4, h5⟩ := h
  obtain ⟨Av, cv, e⟩ := h1.form
  exact ⟨Av, _, cv, e⟩
theorem Rk.done (h : Rk w c A cp K (Faulty c) v W) : CkP c w (.returned v) W := by
  obtain ⟨⟨L, h1, h2, h3⟩, h4, h5⟩ := h
  obtain ⟨Av, cv, rfl⟩ := h1.form
  refine ⟨Av, _, cv, rfl, ?_, h4⟩
  rw [← h2, List.length_eq_zero_iff]
  simp
end
theorem Ar.okf {W W' : World} {base : Nat} {v : Value} {L : List Rl} {cs : List Value} (h : Ar W base v L cs) (k : Okf W W') : Ar W' base v L cs := by
  refine h.keep fun q hq => ?_
  rcases h.row.2 with ⟨h1, _⟩ | ⟨g, cap, cur, h1, h2, h3, _⟩
  · rw [h1] at hq; simp [Value.ownBlock] at hq
  · rw [h1] at hq
    simp [Value.ownBlock] at hq
    subst hq
    rw [h3]
    exact k _ _ h3 (fun cs fz e => by injection e with _ e _; exact absurd e (by decide))
/-- the beginning -/
theorem rk_begin (w : World) (c : Cr) (A : Option Addr) (cp : Nat) {P : Prop} (hP : ¬ P) : Rk w c A cp 0 P (.slice (some ⟨w.heap.size + 1, 0, none⟩) 0 0) ((w.alloc (.cells (crA c A cp) 26)).alloc (.cells #[] 52)) := by
  have hs : (w.alloc (.cells (crA c A cp) 26)).heap.size = w.heap.size + 1 := by simp
  refine ⟨⟨[], ⟨rfl, .inr ⟨w.heap.size + 1, 0, #[], rfl, Nat.le_refl _, ?_, Nat.le_refl _, by unfold maxLen; omega, rfl, rfl⟩⟩, ⟨fun h => absurd rfl h, fun h => absurd h hP⟩, Nat.zero_le _⟩, ((Below.refl _ _).alloc (Nat.le_refl _) _).alloc (by simp) _, ?_⟩
  · exact alloc_at _ _ _ hs.symm
  · exact alloc_old _ _ _ (by omega) (heap_alloc_new _ _)
/-- the first fault -/
theorem rk_late {w : World} {c : Cr} {A : Option Addr} {cp : Nat} {v : Value} {W : World} {P Q : Prop} (h : Rk w c A cp 0 P v W) (hQ : Q) (x : Ft) :
    ∃ v' w', (Builtin.append_ #[29, 29] 29 #[v, .slice (some ⟨W.heap.size, 0, none⟩) 1 1]).run Tryz.prog (W.alloc (.cells #[.int .i64 x.1, .int .i64 x.2.1, .string x.2.2.1, .int .i64 x.2.2.2] 52)) = .ok v' w' ∧ Rk w c A cp 1 Q v' w' := by
  have hz := h.size
  obtain ⟨⟨L, h1, h2, h3⟩, h4, h5⟩ := h
  obtain ⟨v', w', r1, r2, r3, r4⟩ := app_fault 29 x h1 (by omega) (by omega)
  have hba := h4.alloc h4.size (.cells #[.int .i64 x.1, .int .i64 x.2.1, .string x.2.2.1, .int .i64 x.2.2.2] 52)
  have hsa : (W.alloc (.cells #[.int .i64 x.1, .int .i64 x.2.1, .string x.2.2.1, .int .i64 x.2.2.2] 52)).heap.size = W.heap.size + 1 := by simp
  refine ⟨v', w', r1, ⟨L ++ [x], r2, ⟨fun _ => hQ, fun _ => by simp⟩, by rw [List.length_append, List.length_singleton]; omega⟩, hba.grown r3 (by omega) (fun j hj => by have := (h1.lt' hj).1; omega), ?_⟩
  exact (r3.block _ (by omega) (h1.not_own h5 (fun cs fz e => by injection e with _ e _; exact absurd e (by decide))).symm).trans (alloc_old _ _ _ (by omega) h5)
theorem wrong_step (c : Cr) (k : Int) (L : List Rl) (m : Nat) (h : m < L.length) : WrongAt c k (L.take (m + 1)) ↔ WrongAt c k (L.take m) ∨ wrongB c.needs k L[m] ≠ 0 := by
  rw [← List.take_append_getElem h, wrong_snoc]
def DupTo (c : Cr) (k : Int) (j : Nat) : Prop := ∃ y ∈ c.needs.take j, y.k = k
theorem dupTo_step (c : Cr) (k : Int) (j : Nat) (h : j < c.needs.length) : DupTo c k (j + 1) ↔ DupTo c k j ∨ c.needs[j].k = k := by
  unfold DupTo
  rw [← List.take_append_getElem h]
  constructor
  · rintro ⟨y, hy, e⟩
    rcases List.mem_append.1 hy with hy | hy
    · exact .inl ⟨y, hy, e⟩
    · have hy := List.mem_singleton.1 hy; subst hy; exact .inr e
  · rintro (⟨y, hy, e⟩ | e)
    · exact ⟨y, List.mem_append.2 (.inl hy), e⟩
    · exact ⟨c.needs[j], List.mem_append.2 (.inr (List.mem_singleton.2 rfl)), e⟩
theorem dupTo_zero (c : Cr) (k : Int) : ¬ DupTo c k 0 := by
  rintro ⟨y, hy, _⟩; simp at hy
end Go.Proofs.YtbkffdfboloogaaGreatDoor
namespace Go.Proofs.YtbkffdfboloogaaGreatDoor
open Go.RowKit Go.Maps Go.Lib
set_option linter.unusedVariables false
set_option maxRecDepth 100000

theorem Rk.rel {w : World} {c : Cr} {A : Option Addr} {cp K : Nat} {P : Prop} {v : Value} {W : World} (h : Hid (Rk w c A cp K P v W)) : ∃ Av nv cv, v = .slice Av nv cv ∧ Hid (Rk w c A cp K P (.slice Av nv cv) W) := by
  obtain ⟨Av, n, cv, rfl⟩ := h.out.form
  exact ⟨Av, n, cv, rfl, h⟩
theorem nd_cells {W : World} {q : Nat} {x : Nd} {A : Option Addr} {c : Nat} (h : W.heap[q]? = some (.cells (ndA x A c) 35 (0, 0))) :
    W.cell? ⟨q, 0, none⟩ = some (.int .i64 x.k) ∧ W.cell? ⟨q, 2, none⟩ = some (.int .i64 x.r.k) ∧ W.cell? ⟨q, 3, none⟩ = some (.int .i64 x.r.p) ∧ W.cell? ⟨q, 4, none⟩ = some (.string x.r.f) ∧ W.cell? ⟨q, 5, none⟩ = some (.string x.r.t) ∧ W.cell? ⟨q, 6, none⟩ = some (.int .i64 x.r.n) ∧ W.cell? ⟨q, 7, none⟩ = some (.slice A x.r.l.length c) :=
  ⟨by rw [World.cell?, h]; rfl, by rw [World.cell?, h]; rfl, by rw [World.cell?, h]; rfl, by rw [World.cell?, h]; rfl, by rw [World.cell?, h]; rfl, by rw [World.cell?, h]; rfl, by rw [World.cell?, h]; rfl⟩
theorem cr_cells {W : World} {q : Nat} {c : Cr} {A : Option Addr} {cp : Nat} (h : W.heap[q]? = some (.cells (crA c A cp) 26 (0, 0))) :
    W.cell? ⟨q, 11, none⟩ = some (.int .i64 c.lat) ∧ W.cell? ⟨q, 12, none⟩ = some (.int .i64 c.exp) ∧ W.cell? ⟨q, 17, none⟩ = some (.slice A c.needs.length cp) :=
  ⟨by rw [World.cell?, h]; rfl, by rw [World.cell?, h]; rfl, by rw [World.cell?, h]; rfl⟩
set_option maxHeartbeats 16000000 in
theorem refCheck_any (c : Cr) (hc : Fair c) (A : Option Addr) (cp B : Nat) (w : World) (hN : Ns w B A c.needs) (hB : B ≤ w.heap.size) (hl : c.needs.length ≤ 9) :
    Calls Tryz.prog 9 #[.agg (crA c A cp)] w fun e w' => CkP c w e w' := by
  have hN' := hN.more hB
  have HB0 := rk_begin w c A cp (P := False) (fun h => h)
  obtain ⟨k11, k12, k17⟩ := cr_cells HB0.box
  have HR00 := Lib.hid HB0
  have HN := Lib.hid hN'
  have HC := Lib.hid hc
  have HI := Lib.hid (crA_size c A cp)
  have HWr : Hid (∀ (kd : Int) (a : Rl) (A' : Option Addr) (c' : Nat) (W : World), Below w.heap.size w W → Calls Tryz.prog 20 #[.agg (crA c A cp), .int .i64 kd, .agg (rlA a A' c')] W fun e w' => e = .returned (.int .i64 (wrongB c.needs kd a)) ∧ Below W.heap.size W w') := Lib.hid (fun kd a A' c' W hb =>
    refWrong_any c kd a A A' cp c' B W (hN.kept (hb.mono hB)) (by have := hb.size; omega) (by omega))
  have HCl : Hid (∀ (x : Nd) (A' : Option Addr) (c' : Nat) (W : World), x ∈ c.needs → Below w.heap.size w W → NL w w.heap.size A' x.r.l → Calls Tryz.prog 21 #[.agg (rlA x.r A' c')] W fun e w' => ∃ r : Bool, e = .returned (.bool r) ∧ (r = true ↔ ClashR x.r) ∧ Below W.heap.size W w') := Lib.hid (fun x A' c' W hx hb hNL =>
    refClash_any x.r A' c' w.heap.size W (hNL.kept hb) hb.size (hc.need x hx).1 (fits_cases (hc.need x hx).2))
  have HAt : Hid (∀ (x : Nd) (A' : Option Addr) (c' : Nat) (W : World), x ∈ c.needs → Below w.heap.size w W → NL w w.heap.size A' x.r.l → Calls Tryz.prog 19 #[.agg (rlA x.r A' c')] W fun e w' => ∃ A4 c4 cs, e = .returned (.slice A4 (atomsR x.r).length c4) ∧ Ar w' W.heap.size (.slice A4 (atomsR x.r).length c4) (atomsR x.r) cs ∧ Below W.heap.size W w') := Lib.hid (fun x A' c' W hx hb hNL =>
    atoms_any x.r A' c' W w.heap.size (hNL.kept hb) hb.size (hc.need x hx).1)
  have HLn : Hid (∀ x ∈ c.needs, (atomsR x.r).length ≤ 1000) := Lib.hid (fun x hx => by have := atoms_len _ x.r (Nat.le_refl _); have := (hc.need x hx).1; omega)
  have HPut : Hid (∀ (K : Nat) (P : Prop) (v : Value) (W : World) (x : Ft), Rk w c A cp K P v W → K ≤ 100000 → Calls Tryz.prog 18 #[v, .agg #[.int .i64 x.1, .int .i64 x.2.1, .string x.2.2.1, .int .i64 x.2.2.2]] W fun e w' => ∃ v', e = .returned v' ∧ Rk w c A cp (K + 1) True v' w' ∧ Okf W w') := Lib.hid (fun K P v W x h hK => h.put hK x)
  have HF0 : Hid (FaultyTo c 0 ↔ c.exp < c.lat) := Lib.hid (faulty_zero c)
  have HDone : Hid (∀ K v W, Rk w c A cp K (FaultyTo c c.needs.length) v W → CkP c w (.returned v) W) := Lib.hid (fun K v W h => h.done)
  clear hN hN' hc HB0
  generalize hCP : CkP c w = CP at *
  clear hCP
  by_cases hlate : c.exp < c.lat
  · obtain ⟨v1, w1, hrn, hr1⟩ := rk_late HR00.out (HF0.out.2 hlate) (-1, -1, ⟨#[108, 97, 116, 101, 115, 116]⟩, 4)
    have HR0 := Lib.hid hr1
    simp only [World.size_alloc] at hrn
    clear hr1
    go_enter Tryz.func9, Tryz.ntmps9
    go_wp2_with (first
      | (at_builtin; refine Lib.wpList_append_run _ rfl _ _ _ _ rfl _ _ rfl rfl _ _ hrn ?_)
      | fail)
    clear hrn HR00 HF0 k11 k12 k17 hlate
    generalize w1 = W0 at *
    generalize v1 = v0 at *
    go_loopw [3, 4] (fun v i wr => ∃ k : Nat, k ≤ c.needs.length ∧ i = .int .i64 (k : Int) ∧ ∃ Av nv cv, v = .slice Av nv cv ∧ Hid (Rk w c A cp (1 + 1100 * k) (FaultyTo c k) (.slice Av nv cv) wr)) (fun _ i _ => c.needs.length - (RowKit.intOf i).toNat)
    case atStart => exact ⟨0, Nat.zero_le _, rfl, Rk.rel HR0⟩
    case round =>
      clear HR0
      obtain ⟨k, hkl, rfl, Av, nv, cv, rfl, HR⟩ := hrel
      have HBw := Lib.hid HR.out.below
      obtain ⟨_, _, k17⟩ := cr_cells HR.out.box
      by_cases hlt : k < c.needs.length
      · have b1 : (k : Int) < (c.needs.length : Int) := by omega
        have b0 : (0 : Int) ≤ (k : Int) := by omega
        obtain ⟨g, off, rfl, hg, hcs⟩ := HN.out (by omega)
        have HCs := Lib.hid hcs
        obtain ⟨A', c', h8, hch⟩ := hcs k _ (List.getElem?_eq_getElem hlt)
        obtain ⟨c0, c1, c2, c3, c4, c5, c6, c7⟩ := h8.keep (w' := wr) (fun p hp => HBw.out.cell (by rw [hp]; exact hg))
        have Hmem := Lib.hid (show c.needs[k] ∈ c.needs from List.getElem_mem hlt)
        have Hst := Lib.hid (faulty_step c k _ (List.getElem?_eq_getElem hlt))
        have Hdup := Lib.hid (dup_iff c k _ (List.getElem?_eq_getElem hlt))
        have Hch := Lib.hid hch
        clear h8 hcs hch
        generalize c.needs[k] = x at *
        have hba : Below wr.heap.size wr (wr.alloc (.cells (ndA x A' c') 35)) := (Below.refl _ _).alloc (Nat.le_refl _) _
        have HR1 : Hid (Rk w c (some ⟨g, off, none⟩) cp (1 + 1100 * k + 0) (FaultyTo c k ∨ DupTo c x.k 0) (.slice Av nv cv) (wr.alloc (.cells (ndA x A' c') 35))) := Lib.hid ((HR.out.old hba).iff ⟨.inl, fun h => h.elim id fun h => absurd h (dupTo_zero c x.k)⟩)
        have HN1 : Hid ((wr.alloc (.cells (ndA x A' c') 35)).heap[wr.heap.size]? = some (.cells (ndA x A' c') 35 (0, 0))) := Lib.hid (heap_alloc_new _ _)
        have HAtx : Hid (∀ W : World, Below w.heap.size w W → Calls Tryz.prog 19 #[.agg #[.int .i64 x.r.k, .int .i64 x.r.p, .string x.r.f, .string x.r.t, .int .i64 x.r.n, .slice A' x.r.l.length c']] W fun e w' => ∃ A4 c4 cs, e = .returned (.slice A4 (atomsR x.r).length c4) ∧ Ar w' W.heap.size (.slice A4 (atomsR x.r).length c4) (atomsR x.r) cs ∧ Below W.heap.size W w') := Lib.hid (fun W hb => HAt.out x A' c' W Hmem.out hb (Hch.out.more (by omega)))
        have HClx : Hid (∀ W : World, Below w.heap.size w W → Calls Tryz.prog 21 #[.agg #[.int .i64 x.r.k, .int .i64 x.r.p, .string x.r.f, .string x.r.t, .int .i64 x.r.n, .slice A' x.r.l.length c']] W fun e w' => ∃ r : Bool, e = .returned (.bool r) ∧ (r = true ↔ ClashR x.r) ∧ Below W.heap.size W w') := Lib.hid (fun W hb => HCl.out x A' c' W Hmem.out hb (Hch.out.more (by omega)))
        have hLn := HLn.out x Hmem.out
        have hk9 : k ≤ 9 := by omega
        unfold ndA at HR1 HN1
        clear HBw hba HAt HCl
        go_wp2_with fail
        obtain ⟨bn, hbn⟩ : ∃ bn, bn = wr.heap.size := ⟨_, rfl⟩
        rw [← hbn] at HN1 ⊢
        clear hbn HR k17 c0 c1 c2 c3 c4 c5 c6 c7
        go_loopw [3, 6] (fun v j W => ∃ jj : Nat, jj ≤ k ∧ j = .int .i64 (jj : Int) ∧ Hid (W.heap[bn]? = some (.cells (ndA x A' c') 35 (0, 0))) ∧ ∃ Av nv cv, v = .slice Av nv cv ∧ Hid (Rk w c (some ⟨g, off, none⟩) cp (1 + 1100 * k + jj) (FaultyTo c k ∨ DupTo c x.k jj) (.slice Av nv cv) W)) (fun _ j _ => k - (RowKit.intOf j).toNat)
        case atStart => exact ⟨0, Nat.zero_le _, rfl, HN1, Rk.rel HR1⟩
        case round =>
          clear HR1 HN1
          obtain ⟨jj, hjk, rfl, HNb, Av2, nv2, cv2, rfl, HR⟩ := hrel
          obtain ⟨_, _, k17⟩ := cr_cells HR.out.box
          obtain ⟨n0, n2, n3, n4, n5, n6, n7⟩ := nd_cells HNb.out
          by_cases hjl : jj < k
          · have b2 : (jj : Int) < (k : Int) := by omega
            have b3 : (0 : Int) ≤ (jj : Int) := by omega
            have b4 : (jj : Int) < (c.needs.length : Int) := by omega
            obtain ⟨A2, c2, h8, _⟩ := HCs.out jj _ (List.getElem?_eq_getElem (by omega))
            have m0 := (h8.keep (w' := wr) (fun p hp => HR.out.below.cell (by rw [hp]; exact hg))).d0
            have Hds := Lib.hid (dupTo_step c x.k jj (by omega))
            clear h8
            generalize c.needs[jj].k = yk at *
            by_cases hyk : yk = x.k
            · have q : (yk == x.k) = true := by rw [hyk]; simp
              go_wp2_with fail
              go_quiet (fail)
              have HRd := Lib.hid (HR.out.old (below_drewP (Below.refl _ _) nq))
              have n0d : (wr.drewN nq).cell? ⟨bn, 0, none⟩ = _ := n0
              have HNd : Hid ((wr.drewN nq).heap[bn]? = _) := HNb
              have HP := Lib.hid (HPut.out _ _ _ _ ((k : Int), x.k, ⟨#[]⟩, 5) HRd.out (by omega))
              clear k17 n0 n2 n3 n4 n5 n6 n7 m0 HR HNb
              generalize wr.drewN nq = Wd at *
              go_wp2_with (first
                | (go_at_call 18; (with_reducible refine HP.out.mono ?_); rintro e w5 ⟨v5, rfl, hr5, hok⟩; have HR5 := Lib.hid (hr5.iff (P' := FaultyTo c k ∨ DupTo c x.k (jj + 1)) ⟨fun _ => .inr (Hds.out.2 (.inr hyk)), fun _ => trivial⟩); have HN5 := Lib.hid (hok _ _ HNd.out (fun cs fz e => by injection e with _ e _; exact absurd e (by decide))); clear hr5 hok HP)
                | fail)
              go_roundw
              case rel => exact ⟨jj + 1, by omega, by go_num, HN5, Rk.rel HR5⟩
              case measure => simp [RowKit.intOf]; omega
            · have q : (yk == x.k) = false := beq_false_of_ne hyk
              go_wp2_with fail
              go_quiet (fail)
              have HRd := Lib.hid (((HR.out.old (below_drewP (Below.refl _ _) nq)).more (K' := 1 + 1100 * k + (jj + 1)) (by omega)).iff (P' := FaultyTo c k ∨ DupTo c x.k (jj + 1)) ⟨fun h => h.elim .inl fun h => .inr (Hds.out.2 (.inl h)), fun h => h.elim .inl fun h => (Hds.out.1 h).elim .inr fun h => absurd h hyk⟩)
              have HNd : Hid ((wr.drewN nq).heap[bn]? = _) := HNb
              go_wp2_with fail
              go_roundw
              case rel => exact ⟨jj + 1, by omega, by go_num, HNd, Rk.rel HRd⟩
              case measure => simp [RowKit.intOf]; omega
          · have b2 : ¬ (jj : Int) < (k : Int) := by omega
            have HR2 := Lib.hid ((HR.out.more (K' := 1 + 1100 * k + 10 + 0) (by omega)).iff (P' := (FaultyTo c k ∨ DupAt c k) ∨ WrongAt c x.k ((atomsR x.r).take 0)) (by
              have e : jj = k := by omega
              have h1 : DupTo c x.k jj ↔ DupAt c k := by rw [e]; exact Hdup.out.symm
              rw [h1]
              exact ⟨.inl, fun h => h.elim id fun h => absurd h (wrong_nil c x.k)⟩))
            have hBw := HR.out.below
            have HAtw := Lib.hid (HAtx.out wr hBw)
            clear HR k17 hBw Hdup HCs HAtx hjk hjl
            obtain ⟨L, hL⟩ : ∃ L, L = atomsR x.r := ⟨_, rfl⟩
            rw [← hL] at HR2 HAtw hLn Hst
            clear hL
            go_wp2_with (first
              | (go_at_call 19; (with_reducible refine HAtw.out.mono ?_); rintro e w4 ⟨A4, c4, cs4, rfl, hAr, hb4⟩; have HA4 := Lib.hid hAr; have HR4 := Lib.hid (HR2.out.old hb4); have HN4 := Lib.hid ((hb4.block _ (Array.getElem?_eq_some_iff.1 HNb.out).1).trans HNb.out); obtain ⟨b4, hb4'⟩ : ∃ b4, b4 = wr.heap.size := ⟨_, rfl⟩; rw [← hb4'] at HA4; clear hb4' hAr hb4 HAtw HR2 HNb n0 n2 n3 n4 n5 n6 n7)
              | fail)
            go_loopw [3, 56] (fun v i W => ∃ m : Nat, m ≤ L.length ∧ i = .int .i64 (m : Int) ∧ Hid (W.heap[bn]? = some (.cells (ndA x A' c') 35 (0, 0))) ∧ Hid (Ar W b4 (.slice A4 L.length c4) L cs4) ∧ ∃ Av nv cv, v = .slice Av nv cv ∧ Hid (Rk w c (some ⟨g, off, none⟩) cp (1 + 1100 * k + 10 + m) ((FaultyTo c k ∨ DupAt c k) ∨ WrongAt c x.k (L.take m)) (.slice Av nv cv) W)) (fun _ i _ => L.length - (RowKit.intOf i).toNat)
            case atStart => exact ⟨0, Nat.zero_le _, rfl, HN4, HA4, Rk.rel HR4⟩
            case round =>
              clear HR4 HN4 HA4
              obtain ⟨m, hm, rfl, HNb, HA, Av3, nv3, cv3, rfl, HR⟩ := hrel
              obtain ⟨n0, n2, n3, n4, n5, n6, n7⟩ := nd_cells HNb.out
              by_cases hml : m < L.length
              · have b2 : (m : Int) < (L.length : Int) := by omega
                have b3 : (0 : Int) ≤ (m : Int) := by omega
                obtain ⟨g2, o2, A5, c5, rfl, hg2, h6⟩ := HA.out.am.at_ (List.getElem?_eq_getElem hml)
                have Hws := Lib.hid (wrong_step c x.k L m hml)
                obtain ⟨a0, a1, a2, a3, a4, a5⟩ := h6
                generalize L[m] = a at *
                have hba : Below wr.heap.size wr (wr.alloc (.cells (rlA a A5 c5) 33)) := (Below.refl _ _).alloc (Nat.le_refl _) _
                have HRa := Lib.hid (HR.out.old hba)
                have HNa : Hid ((wr.alloc (.cells (rlA a A5 c5) 33)).heap[bn]? = some (.cells (ndA x A' c') 35 (0, 0))) := Lib.hid ((hba.block _ (Array.getElem?_eq_some_iff.1 HNb.out).1).trans HNb.out)
                have HAa := Lib.hid (HA.out.below hba)
                have HWa := Lib.hid (HWr.out x.k a A5 c5 _ HRa.out.below)
                have hc' : ∀ j, j < 6 → (wr.alloc (.cells (rlA a A5 c5) 33)).cell? ⟨wr.heap.size, j, none⟩ = (rlA a A5 c5)[j]? := fun j hj => by rw [World.cell?, heap_alloc_new]; rfl
                have r2 : (wr.alloc (.cells (rlA a A5 c5) 33)).cell? ⟨wr.heap.size, 2, none⟩ = some (.string a.f) := hc' 2 (by omega)
                have HC6 : Hid (∀ w5, Below (wr.alloc (.cells (rlA a A5 c5) 33)).heap.size (wr.alloc (.cells (rlA a A5 c5) 33)) w5 → w5.cell? ⟨wr.heap.size, 2, none⟩ = some (.string a.f)) := Lib.hid (fun w5 hb => (hb.cell (p := ⟨wr.heap.size, 2, none⟩) (by simp)).trans r2)
                have Hbx := Lib.hid HRa.out.box
                have r0 : (wr.alloc (.cells (rlA a A5 c5) 33)).cell? ⟨wr.heap.size, 0, none⟩ = some (.int .i64 a.k) := hc' 0 (by omega)
                have r1 : (wr.alloc (.cells (rlA a A5 c5) 33)).cell? ⟨wr.heap.size, 1, none⟩ = some (.int .i64 a.p) := hc' 1 (by omega)
                have r3 : (wr.alloc (.cells (rlA a A5 c5) 33)).cell? ⟨wr.heap.size, 3, none⟩ = some (.string a.t) := hc' 3 (by omega)
                have r4 : (wr.alloc (.cells (rlA a A5 c5) 33)).cell? ⟨wr.heap.size, 4, none⟩ = some (.int .i64 a.n) := hc' 4 (by omega)
                have r5 : (wr.alloc (.cells (rlA a A5 c5) 33)).cell? ⟨wr.heap.size, 5, none⟩ = some (.slice A5 a.l.length c5) := hc' 5 (by omega)
                obtain ⟨s0, _⟩ := nd_cells HNa.out
                have hrg := wrong_range c.needs x.k a
                unfold rlA at HRa HNa HAa HWa HC6 Hbx r0 r1 r2 r3 r4 r5 s0
                clear hc' hba HR HNb HA
                generalize wrongB c.needs x.k a = wv at *
                by_cases hwv : wv = 0
                · have q : ¬ (0 : Int) < wv := by omega
                  go_wp2_with (first
                    | (go_at_call 20; (with_reducible refine HWa.out.mono ?_); rintro e w5 ⟨rfl, hb5⟩; have HR5 := Lib.hid (((HRa.out.old hb5).more (K' := 1 + 1100 * k + 10 + (m + 1)) (by omega)).iff (P' := (FaultyTo c k ∨ DupAt c k) ∨ WrongAt c x.k (L.take (m + 1))) ⟨fun h => h.elim .inl fun h => .inr (Hws.out.2 (.inl h)), fun h => h.elim .inl fun h => (Hws.out.1 h).elim .inr fun h => absurd hwv h⟩); have HN5 := Lib.hid ((hb5.block _ (Array.getElem?_eq_some_iff.1 HNa.out).1).trans HNa.out); have HA5 := Lib.hid (HAa.out.below hb5); clear hb5 HWa)
                    | (refine wpList_load_row rfl 26 (.tmp 1) rfl w.heap.size rfl 26 (crA c (some ⟨g, off, none⟩) cp) (0, 0) _ Hbx.out Tryz.underlying26 rfl HI.out ?_)
                    | fail)
                  go_roundw
                  case rel => exact ⟨m + 1, by omega, by go_num, HN5, HA5, Rk.rel HR5⟩
                  case measure => simp [RowKit.intOf]; omega
                · have q : (0 : Int) < wv := by omega
                  go_wp2_with (first
                    | (go_at_call 20; (with_reducible refine HWa.out.mono ?_); rintro e w5 ⟨rfl, hb5⟩; have HR5 := Lib.hid (HRa.out.old hb5); have HN5 := Lib.hid ((hb5.block _ (Array.getElem?_eq_some_iff.1 HNa.out).1).trans HNa.out); have HA5 := Lib.hid (HAa.out.below hb5); have t2 := HC6.out _ hb5; obtain ⟨t0, _⟩ := nd_cells HN5.out; have HP := Lib.hid (HPut.out _ _ _ _ ((k : Int), x.k, a.f, wv) HR5.out (by omega)); clear hb5 HWa r0 r1 r2 r3 r4 r5 s0)
                    | (refine wpList_load_row rfl 26 (.tmp 1) rfl w.heap.size rfl 26 (crA c (some ⟨g, off, none⟩) cp) (0, 0) _ Hbx.out Tryz.underlying26 rfl HI.out ?_)
                    | (go_at_call 18; (with_reducible refine HP.out.mono ?_); rintro e w6 ⟨v6, rfl, hr6, hok⟩; have HR6 := Lib.hid (hr6.iff (P' := (FaultyTo c k ∨ DupAt c k) ∨ WrongAt c x.k (L.take (m + 1))) ⟨fun _ => .inr (Hws.out.2 (.inr hwv)), fun _ => trivial⟩); have HN6 := Lib.hid (hok _ _ HN5.out (fun cs fz e => by injection e with _ e _; exact absurd e (by decide))); have HA6 := Lib.hid (HA5.out.okf hok); clear hr6 hok HP)
                    | fail)
                  go_roundw
                  case rel => exact ⟨m + 1, by omega, by go_num, HN6, HA6, Rk.rel HR6⟩
                  case measure => simp [RowKit.intOf]; omega
              · have b2 : ¬ (m : Int) < (L.length : Int) := by omega
                have HR3 := Lib.hid (HR.out.iff (P' := (FaultyTo c k ∨ DupAt c k) ∨ WrongAt c x.k L) (by rw [List.take_of_length_le (by omega)]))
                have HClw := Lib.hid (HClx.out wr HR.out.below)
                clear HR HA
                go_wp2_with (first
                  | (go_at_call 21; (with_reducible refine HClw.out.mono ?_); rintro e w5 ⟨r, rfl, hr, hb5⟩; have HR5 := Lib.hid (HR3.out.old hb5); have HN5 := Lib.hid ((hb5.block _ (Array.getElem?_eq_some_iff.1 HNb.out).1).trans HNb.out); have Hr := Lib.hid hr; obtain ⟨t0, _⟩ := nd_cells HN5.out; have HP := Lib.hid (HPut.out _ _ _ _ ((k : Int), x.k, ⟨#[]⟩, 2) HR5.out (by omega)); clear hb5 hr HClw n0 n2 n3 n4 n5 n6 n7)
                  | (go_at_call 18; (with_reducible refine HP.out.mono ?_); rintro e w6 ⟨v6, rfl, hr6, hok⟩; have HR6 := Lib.hid hr6; clear hr6 hok HP)
                  | fail)
                all_goals
                  first
                    | (rename (r = true) => hx; have HR7 := Lib.hid ((HR6.out.more (K' := 1 + 1100 * (k + 1)) (by omega)).iff (P' := FaultyTo c (k + 1)) ⟨fun _ => Hst.out.2 (.inr (Hr.out.1 hx)), fun _ => trivial⟩); exact ⟨⟨k + 1, by omega, by go_num, Rk.rel HR7⟩, by simp [RowKit.intOf]; omega⟩)
                    | (rename (r = false) => hx; have HR7 := Lib.hid ((HR5.out.more (K' := 1 + 1100 * (k + 1)) (by omega)).iff (P' := FaultyTo c (k + 1)) ⟨fun h => Hst.out.2 (.inl h), fun h => (Hst.out.1 h).elim id fun h => absurd (Hr.out.2 h) (by rw [hx]; simp)⟩); exact ⟨⟨k + 1, by omega, by go_num, Rk.rel HR7⟩, by simp [RowKit.intOf]; omega⟩)
      · have b1 : ¬ (k : Int) < (c.needs.length : Int) := by omega
        have HF := Lib.hid (HDone.out _ _ _ (HR.out.iff (P' := FaultyTo c c.needs.length) (by rw [show k = c.needs.length by omega])))
        go_wp2_with fail
        first
          | exact HF.out
          | (go_ret; exact HF.out)
  · have HR0 := Lib.hid ((HR00.out.more (K' := 1) (by omega)).iff (P' := FaultyTo c 0) ⟨fun h => h.elim, fun h => absurd (HF0.out.1 h) hlate⟩)
    go_enter Tryz.func9, Tryz.ntmps9
    go_wp2_with fail
    clear HR00 HF0 k11 k12 k17 hlate
    generalize (w.alloc (.cells (crA c A cp) 26)).alloc (.cells #[] 52) = W0 at *
    go_loopw [3, 4] (fun v i wr => ∃ k : Nat, k ≤ c.needs.length ∧ i = .int .i64 (k : Int) ∧ ∃ Av nv cv, v = .slice Av nv cv ∧ Hid (Rk w c A cp (1 + 1100 * k) (FaultyTo c k) (.slice Av nv cv) wr)) (fun _ i _ => c.needs.length - (RowKit.intOf i).toNat)
    case atStart => exact ⟨0, Nat.zero_le _, rfl, Rk.rel HR0⟩
    case round =>
      clear HR0
      obtain ⟨k, hkl, rfl, Av, nv, cv, rfl, HR⟩ := hrel
      have HBw := Lib.hid HR.out.below
      obtain ⟨_, _, k17⟩ := cr_cells HR.out.box
      by_cases hlt : k < c.needs.length
      · have b1 : (k : Int) < (c.needs.length : Int) := by omega
        have b0 : (0 : Int) ≤ (k : Int) := by omega
        obtain ⟨g, off, rfl, hg, hcs⟩ := HN.out (by omega)
        have HCs := Lib.hid hcs
        obtain ⟨A', c', h8, hch⟩ := hcs k _ (List.getElem?_eq_getElem hlt)
        obtain ⟨c0, c1, c2, c3, c4, c5, c6, c7⟩ := h8.keep (w' := wr) (fun p hp => HBw.out.cell (by rw [hp]; exact hg))
        have Hmem := Lib.hid (show c.needs[k] ∈ c.needs from List.getElem_mem hlt)
        have Hst := Lib.hid (faulty_step c k _ (List.getElem?_eq_getElem hlt))
        have Hdup := Lib.hid (dup_iff c k _ (List.getElem?_eq_getElem hlt))
        have Hch := Lib.hid hch
        clear h8 hcs hch
        generalize c.needs[k] = x at *
        have hba : Below wr.heap.size wr (wr.alloc (.cells (ndA x A' c') 35)) := (Below.refl _ _).alloc (Nat.le_refl _) _
        have HR1 : Hid (Rk w c (some ⟨g, off, none⟩) cp (1 + 1100 * k + 0) (FaultyTo c k ∨ DupTo c x.k 0) (.slice Av nv cv) (wr.alloc (.cells (ndA x A' c') 35))) := Lib.hid ((HR.out.old hba).iff ⟨.inl, fun h => h.elim id fun h => absurd h (dupTo_zero c x.k)⟩)
        have HN1 : Hid ((wr.alloc (.cells (ndA x A' c') 35)).heap[wr.heap.size]? = some (.cells (ndA x A' c') 35 (0, 0))) := Lib.hid (heap_alloc_new _ _)
        have HAtx : Hid (∀ W : World, Below w.heap.size w W → Calls Tryz.prog 19 #[.agg #[.int .i64 x.r.k, .int .i64 x.r.p, .string x.r.f, .string x.r.t, .int .i64 x.r.n, .slice A' x.r.l.length c']] W fun e w' => ∃ A4 c4 cs, e = .returned (.slice A4 (atomsR x.r).length c4) ∧ Ar w' W.heap.size (.slice A4 (atomsR x.r).length c4) (atomsR x.r) cs ∧ Below W.heap.size W w') := Lib.hid (fun W hb => HAt.out x A' c' W Hmem.out hb (Hch.out.more (by omega)))
        have HClx : Hid (∀ W : World, Below w.heap.size w W → Calls Tryz.prog 21 #[.agg #[.int .i64 x.r.k, .int .i64 x.r.p, .string x.r.f, .string x.r.t, .int .i64 x.r.n, .slice A' x.r.l.length c']] W fun e w' => ∃ r : Bool, e = .returned (.bool r) ∧ (r = true ↔ ClashR x.r) ∧ Below W.heap.size W w') := Lib.hid (fun W hb => HCl.out x A' c' W Hmem.out hb (Hch.out.more (by omega)))
        have hLn := HLn.out x Hmem.out
        have hk9 : k ≤ 9 := by omega
        unfold ndA at HR1 HN1
        clear HBw hba HAt HCl
        go_wp2_with fail
        obtain ⟨bn, hbn⟩ : ∃ bn, bn = wr.heap.size := ⟨_, rfl⟩
        rw [← hbn] at HN1 ⊢
        clear hbn HR k17 c0 c1 c2 c3 c4 c5 c6 c7
        go_loopw [3, 6] (fun v j W => ∃ jj : Nat, jj ≤ k ∧ j = .int .i64 (jj : Int) ∧ Hid (W.heap[bn]? = some (.cells (ndA x A' c') 35 (0, 0))) ∧ ∃ Av nv cv, v = .slice Av nv cv ∧ Hid (Rk w c (some ⟨g, off, none⟩) cp (1 + 1100 * k + jj) (FaultyTo c k ∨ DupTo c x.k jj) (.slice Av nv cv) W)) (fun _ j _ => k - (RowKit.intOf j).toNat)
        case atStart => exact ⟨0, Nat.zero_le _, rfl, HN1, Rk.rel HR1⟩
        case round =>
          clear HR1 HN1
          obtain ⟨jj, hjk, rfl, HNb, Av2, nv2, cv2, rfl, HR⟩ := hrel
          obtain ⟨_, _, k17⟩ := cr_cells HR.out.box
          obtain ⟨n0, n2, n3, n4, n5, n6, n7⟩ := nd_cells HNb.out
          by_cases hjl : jj < k
          · have b2 : (jj : Int) < (k : Int) := by omega
            have b3 : (0 : Int) ≤ (jj : Int) := by omega
            have b4 : (jj : Int) < (c.needs.length : Int) := by omega
            obtain ⟨A2, c2, h8, _⟩ := HCs.out jj _ (List.getElem?_eq_getElem (by omega))
            have m0 := (h8.keep (w' := wr) (fun p hp => HR.out.below.cell (by rw [hp]; exact hg))).d0
            have Hds := Lib.hid (dupTo_step c x.k jj (by omega))
            clear h8
            generalize c.needs[jj].k = yk at *
            by_cases hyk : yk = x.k
            · have q : (yk == x.k) = true := by rw [hyk]; simp
              go_wp2_with fail
              go_quiet (fail)
              have HRd := Lib.hid (HR.out.old (below_drewP (Below.refl _ _) nq))
              have n0d : (wr.drewN nq).cell? ⟨bn, 0, none⟩ = _ := n0
              have HNd : Hid ((wr.drewN nq).heap[bn]? = _) := HNb
              have HP := Lib.hid (HPut.out _ _ _ _ ((k : Int), x.k, ⟨#[]⟩, 5) HRd.out (by omega))
              clear k17 n0 n2 n3 n4 n5 n6 n7 m0 HR HNb
              generalize wr.drewN nq = Wd at *
              go_wp2_with (first
                | (go_at_call 18; (with_reducible refine HP.out.mono ?_); rintro e w5 ⟨v5, rfl, hr5, hok⟩; have HR5 := Lib.hid (hr5.iff (P' := FaultyTo c k ∨ DupTo c x.k (jj + 1)) ⟨fun _ => .inr (Hds.out.2 (.inr hyk)), fun _ => trivial⟩); have HN5 := Lib.hid (hok _ _ HNd.out (fun cs fz e => by injection e with _ e _; exact absurd e (by decide))); clear hr5 hok HP)
                | fail)
              go_roundw
              case rel => exact ⟨jj + 1, by omega, by go_num, HN5, Rk.rel HR5⟩
              case measure => simp [RowKit.intOf]; omega
            · have q : (yk == x.k) = false := beq_false_of_ne hyk
              go_wp2_with fail
              go_quiet (fail)
              have HRd := Lib.hid (((HR.out.old (below_drewP (Below.refl _ _) nq)).more (K' := 1 + 1100 * k + (jj + 1)) (by omega)).iff (P' := FaultyTo c k ∨ DupTo c x.k (jj + 1)) ⟨fun h => h.elim .inl fun h => .inr (Hds.out.2 (.inl h)), fun h => h.elim .inl fun h => (Hds.out.1 h).elim .inr fun h => absurd h hyk⟩)
              have HNd : Hid ((wr.drewN nq).heap[bn]? = _) := HNb
              go_wp2_with fail
              go_roundw
              case rel => exact ⟨jj + 1, by omega, by go_num, HNd, Rk.rel HRd⟩
              case measure => simp [RowKit.intOf]; omega
          · have b2 : ¬ (jj : Int) < (k : Int) := by omega
            have HR2 := Lib.hid ((HR.out.more (K' := 1 + 1100 * k + 10 + 0) (by omega)).iff (P' := (FaultyTo c k ∨ DupAt c k) ∨ WrongAt c x.k ((atomsR x.r).take 0)) (by
              have e : jj = k := by omega
              have h1 : DupTo c x.k jj ↔ DupAt c k := by rw [e]; exact Hdup.out.symm
              rw [h1]
              exact ⟨.inl, fun h => h.elim id fun h => absurd h (wrong_nil c x.k)⟩))
            have hBw := HR.out.below
            have HAtw := Lib.hid (HAtx.out wr hBw)
            clear HR k17 hBw Hdup HCs HAtx hjk hjl
            obtain ⟨L, hL⟩ : ∃ L, L = atomsR x.r := ⟨_, rfl⟩
            rw [← hL] at HR2 HAtw hLn Hst
            clear hL
            go_wp2_with (first
              | (go_at_call 19; (with_reducible refine HAtw.out.mono ?_); rintro e w4 ⟨A4, c4, cs4, rfl, hAr, hb4⟩; have HA4 := Lib.hid hAr; have HR4 := Lib.hid (HR2.out.old hb4); have HN4 := Lib.hid ((hb4.block _ (Array.getElem?_eq_some_iff.1 HNb.out).1).trans HNb.out); obtain ⟨b4, hb4'⟩ : ∃ b4, b4 = wr.heap.size := ⟨_, rfl⟩; rw [← hb4'] at HA4; clear hb4' hAr hb4 HAtw HR2 HNb n0 n2 n3 n4 n5 n6 n7)
              | fail)
            go_loopw [3, 56] (fun v i W => ∃ m : Nat, m ≤ L.length ∧ i = .int .i64 (m : Int) ∧ Hid (W.heap[bn]? = some (.cells (ndA x A' c') 35 (0, 0))) ∧ Hid (Ar W b4 (.slice A4 L.length c4) L cs4) ∧ ∃ Av nv cv, v = .slice Av nv cv ∧ Hid (Rk w c (some ⟨g, off, none⟩) cp (1 + 1100 * k + 10 + m) ((FaultyTo c k ∨ DupAt c k) ∨ WrongAt c x.k (L.take m)) (.slice Av nv cv) W)) (fun _ i _ => L.length - (RowKit.intOf i).toNat)
            case atStart => exact ⟨0, Nat.zero_le _, rfl, HN4, HA4, Rk.rel HR4⟩
            case round =>
              clear HR4 HN4 HA4
              obtain ⟨m, hm, rfl, HNb, HA, Av3, nv3, cv3, rfl, HR⟩ := hrel
              obtain ⟨n0, n2, n3, n4, n5, n6, n7⟩ := nd_cells HNb.out
              by_cases hml : m < L.length
              · have b2 : (m : Int) < (L.length : Int) := by omega
                have b3 : (0 : Int) ≤ (m : Int) := by omega
                obtain ⟨g2, o2, A5, c5, rfl, hg2, h6⟩ := HA.out.am.at_ (List.getElem?_eq_getElem hml)
                have Hws := Lib.hid (wrong_step c x.k L m hml)
                obtain ⟨a0, a1, a2, a3, a4, a5⟩ := h6
                generalize L[m] = a at *
                have hba : Below wr.heap.size wr (wr.alloc (.cells (rlA a A5 c5) 33)) := (Below.refl _ _).alloc (Nat.le_refl _) _
                have HRa := Lib.hid (HR.out.old hba)
                have HNa : Hid ((wr.alloc (.cells (rlA a A5 c5) 33)).heap[bn]? = some (.cells (ndA x A' c') 35 (0, 0))) := Lib.hid ((hba.block _ (Array.getElem?_eq_some_iff.1 HNb.out).1).trans HNb.out)
                have HAa := Lib.hid (HA.out.below hba)
                have HWa := Lib.hid (HWr.out x.k a A5 c5 _ HRa.out.below)
                have hc' : ∀ j, j < 6 → (wr.alloc (.cells (rlA a A5 c5) 33)).cell? ⟨wr.heap.size, j, none⟩ = (rlA a A5 c5)[j]? := fun j hj => by rw [World.cell?, heap_alloc_new]; rfl
                have r2 : (wr.alloc (.cells (rlA a A5 c5) 33)).cell? ⟨wr.heap.size, 2, none⟩ = some (.string a.f) := hc' 2 (by omega)
                have HC6 : Hid (∀ w5, Below (wr.alloc (.cells (rlA a A5 c5) 33)).heap.size (wr.alloc (.cells (rlA a A5 c5) 33)) w5 → w5.cell? ⟨wr.heap.size, 2, none⟩ = some (.string a.f)) := Lib.hid (fun w5 hb => (hb.cell (p := ⟨wr.heap.size, 2, none⟩) (by simp)).trans r2)
                have Hbx := Lib.hid HRa.out.box
                have r0 : (wr.alloc (.cells (rlA a A5 c5) 33)).cell? ⟨wr.heap.size, 0, none⟩ = some (.int .i64 a.k) := hc' 0 (by omega)
                have r1 : (wr.alloc (.cells (rlA a A5 c5) 33)).cell? ⟨wr.heap.size, 1, none⟩ = some (.int .i64 a.p) := hc' 1 (by omega)
                have r3 : (wr.alloc (.cells (rlA a A5 c5) 33)).cell? ⟨wr.heap.size, 3, none⟩ = some (.string a.t) := hc' 3 (by omega)
                have r4 : (wr.alloc (.cells (rlA a A5 c5) 33)).cell? ⟨wr.heap.size, 4, none⟩ = some (.int .i64 a.n) := hc' 4 (by omega)
                have r5 : (wr.alloc (.cells (rlA a A5 c5) 33)).cell? ⟨wr.heap.size, 5, none⟩ = some (.slice A5 a.l.length c5) := hc' 5 (by omega)
                obtain ⟨s0, _⟩ := nd_cells HNa.out
                have hrg := wrong_range c.needs x.k a
                unfold rlA at HRa HNa HAa HWa HC6 Hbx r0 r1 r2 r3 r4 r5 s0
                clear hc' hba HR HNb HA
                generalize wrongB c.needs x.k a = wv at *
                by_cases hwv : wv = 0
                · have q : ¬ (0 : Int) < wv := by omega
                  go_wp2_with (first
                    | (go_at_call 20; (with_reducible refine HWa.out.mono ?_); rintro e w5 ⟨rfl, hb5⟩; have HR5 := Lib.hid (((HRa.out.old hb5).more (K' := 1 + 1100 * k + 10 + (m + 1)) (by omega)).iff (P' := (FaultyTo c k ∨ DupAt c k) ∨ WrongAt c x.k (L.take (m + 1))) ⟨fun h => h.elim .inl fun h => .inr (Hws.out.2 (.inl h)), fun h => h.elim .inl fun h => (Hws.out.1 h).elim .inr fun h => absurd hwv h⟩); have HN5 := Lib.hid ((hb5.block _ (Array.getElem?_eq_some_iff.1 HNa.out).1).trans HNa.out); have HA5 := Lib.hid (HAa.out.below hb5); clear hb5 HWa)
                    | (refine wpList_load_row rfl 26 (.tmp 1) rfl w.heap.size rfl 26 (crA c (some ⟨g, off, none⟩) cp) (0, 0) _ Hbx.out Tryz.underlying26 rfl HI.out ?_)
                    | fail)
                  go_roundw
                  case rel => exact ⟨m + 1, by omega, by go_num, HN5, HA5, Rk.rel HR5⟩
                  case measure => simp [RowKit.intOf]; omega
                · have q : (0 : Int) < wv := by omega
                  go_wp2_with (first
                    | (go_at_call 20; (with_reducible refine HWa.out.mono ?_); rintro e w5 ⟨rfl, hb5⟩; have HR5 := Lib.hid (HRa.out.old hb5); have HN5 := Lib.hid ((hb5.block _ (Array.getElem?_eq_some_iff.1 HNa.out).1).trans HNa.out); have HA5 := Lib.hid (HAa.out.below hb5); have t2 := HC6.out _ hb5; obtain ⟨t0, _⟩ := nd_cells HN5.out; have HP := Lib.hid (HPut.out _ _ _ _ ((k : Int), x.k, a.f, wv) HR5.out (by omega)); clear hb5 HWa r0 r1 r2 r3 r4 r5 s0)
                    | (refine wpList_load_row rfl 26 (.tmp 1) rfl w.heap.size rfl 26 (crA c (some ⟨g, off, none⟩) cp) (0, 0) _ Hbx.out Tryz.underlying26 rfl HI.out ?_)
                    | (go_at_call 18; (with_reducible refine HP.out.mono ?_); rintro e w6 ⟨v6, rfl, hr6, hok⟩; have HR6 := Lib.hid (hr6.iff (P' := (FaultyTo c k ∨ DupAt c k) ∨ WrongAt c x.k (L.take (m + 1))) ⟨fun _ => .inr (Hws.out.2 (.inr hwv)), fun _ => trivial⟩); have HN6 := Lib.hid (hok _ _ HN5.out (fun cs fz e => by injection e with _ e _; exact absurd e (by decide))); have HA6 := Lib.hid (HA5.out.okf hok); clear hr6 hok HP)
                    | fail)
                  go_roundw
                  case rel => exact ⟨m + 1, by omega, by go_num, HN6, HA6, Rk.rel HR6⟩
                  case measure => simp [RowKit.intOf]; omega
              · have b2 : ¬ (m : Int) < (L.length : Int) := by omega
                have HR3 := Lib.hid (HR.out.iff (P' := (FaultyTo c k ∨ DupAt c k) ∨ WrongAt c x.k L) (by rw [List.take_of_length_le (by omega)]))
                have HClw := Lib.hid (HClx.out wr HR.out.below)
                clear HR HA
                go_wp2_with (first
                  | (go_at_call 21; (with_reducible refine HClw.out.mono ?_); rintro e w5 ⟨r, rfl, hr, hb5⟩; have HR5 := Lib.hid (HR3.out.old hb5); have HN5 := Lib.hid ((hb5.block _ (Array.getElem?_eq_some_iff.1 HNb.out).1).trans HNb.out); have Hr := Lib.hid hr; obtain ⟨t0, _⟩ := nd_cells HN5.out; have HP := Lib.hid (HPut.out _ _ _ _ ((k : Int), x.k, ⟨#[]⟩, 2) HR5.out (by omega)); clear hb5 hr HClw n0 n2 n3 n4 n5 n6 n7)
                  | (go_at_call 18; (with_reducible refine HP.out.mono ?_); rintro e w6 ⟨v6, rfl, hr6, hok⟩; have HR6 := Lib.hid hr6; clear hr6 hok HP)
                  | fail)
                all_goals
                  first
                    | (rename (r = true) => hx; have HR7 := Lib.hid ((HR6.out.more (K' := 1 + 1100 * (k + 1)) (by omega)).iff (P' := FaultyTo c (k + 1)) ⟨fun _ => Hst.out.2 (.inr (Hr.out.1 hx)), fun _ => trivial⟩); exact ⟨⟨k + 1, by omega, by go_num, Rk.rel HR7⟩, by simp [RowKit.intOf]; omega⟩)
                    | (rename (r = false) => hx; have HR7 := Lib.hid ((HR5.out.more (K' := 1 + 1100 * (k + 1)) (by omega)).iff (P' := FaultyTo c (k + 1)) ⟨fun h => Hst.out.2 (.inl h), fun h => (Hst.out.1 h).elim id fun h => absurd (Hr.out.2 h) (by rw [hx]; simp)⟩); exact ⟨⟨k + 1, by omega, by go_num, Rk.rel HR7⟩, by simp [RowKit.intOf]; omega⟩)
      · have b1 : ¬ (k : Int) < (c.needs.length : Int) := by omega
        have HF := Lib.hid (HDone.out _ _ _ (HR.out.iff (P' := FaultyTo c c.needs.length) (by rw [show k = c.needs.length by omega])))
        go_wp2_with fail
        first
          | exact HF.out
          | (go_ret; exact HF.out)
end Go.Proofs.YtbkffdfboloogaaGreatDoor
