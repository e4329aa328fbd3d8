/- ledger.posts, Ledger.Posts: the posts, copied. -/
import Derived.Test.YtooeelaobmhifaaGreatDoorACloneP
import Derived.Test.YtooeelaobmhifaaGreatDoorALed
import Derived.Laws.OwnMore
namespace Go.Proofs.YtooeelaobmhifaaGreatDoor
open Go.RowKit Go.Maps Go.Lib
set_option linter.unusedVariables false
set_option maxRecDepth 100000

theorem cellsP_set : ∀ (T : List Pl) (k : Nat) (t u : Pl), T[k]? = some t → u.pt = t.pt → (cellsP T).set (k * 3 + 2) (.slice u.A u.pt.ents.length u.c) = cellsP (T.set k u)
  | [], k, t, u, h, _ => by simp at h
  | x :: T, 0, t, u, h, hu => by
    simp at h
    subst h
    simp [cellsP, Pl.cells, hu]
  | x :: T, k + 1, t, u, h, hu => by
    have := cellsP_set T k t u (by simpa using h) hu
    have e : cellsP (x :: T) = .int .i64 x.pt.num :: .string x.pt.text :: .slice x.A x.pt.ents.length x.c :: cellsP T := rfl
    have e1 : (k + 1) * 3 + 2 = (k * 3 + 2) + 1 + 1 + 1 := by omega
    rw [e, e1, List.set_cons_succ, List.set_cons_succ, List.set_cons_succ, this]
    rfl
theorem map_set_pt (T : List Pl) (k : Nat) (t u : Pl) (h : T[k]? = some t) (hu : u.pt = t.pt) : (T.set k u).map Pl.pt = T.map Pl.pt := by
  rw [List.map_set, hu]
  apply List.ext_getElem?
  intro i
  rw [List.getElem?_set]
  split
  · rename_i e
    subst e
    obtain ⟨hk, hx⟩ := List.getElem?_eq_some_iff.1 h
    simp [hk, hx]
  · rfl

/-- how far the copying has come: the row is block g -/
structure Cy (w0 w : World) (g cap : Nat) (L L' : List Pl) : Prop where
  pts : L'.map Pl.pt = L.map Pl.pt
  row : w.ownsRow w0.heap.size 67 3 (.slice (some ⟨g, 0, none⟩) L'.length cap) L'.length (cellsP L')
  ents : ∀ x ∈ L', Re w w.heap.size x.A x.pt.ents ∧ 0 < x.pt.ents.length ∧ x.pt.ents.length ≤ 64
  out : ∀ x ∈ L', ∀ ad, x.A = some ad → ad.block ≠ g
  bel : Below w0.heap.size w0 w
section
variable {w0 w w1 : World} {g cap : Nat} {L L' : List Pl}
theorem Cy.len (h : Cy w0 w g cap L L') : L'.length = L.length := by have := congrArg List.length h.pts; simpa using this
theorem Cy.glt (h : Cy w0 w g cap L L') : w0.heap.size ≤ g ∧ g < w.heap.size := h.row.lt g rfl
theorem Cy.at_ (h : Cy w0 w g cap L L') {k : Nat} (hk : k < L'.length) : w.cell? ⟨g, k * 3 + 2, none⟩ = some (.slice L'[k].A L'[k].pt.ents.length L'[k].c) ∧ w.frozen? ⟨g, k * 3 + 2, none⟩ = false := by
  refine ⟨?_, h.row.frozenAt _⟩
  rw [h.row.cellAt (k * 3 + 2) (by omega)]
  exact (cellsP_at L' k _ (List.getElem?_eq_getElem hk)).2.2
theorem Cy.step {A' : Option Addr} {c' k : Nat} (h : Cy w0 w g cap L L') (hk : k < L'.length) (hb : Below w.heap.size w w1) (hR : Re w1 w1.heap.size A' L'[k].pt.ents) (hA : ∀ ad, A' = some ad → w.heap.size ≤ ad.block) :
    Cy w0 (w1.setCell ⟨g, k * 3 + 2, none⟩ (.slice A' L'[k].pt.ents.length c')) g cap L (L'.set k ⟨L'[k].pt, A', c'⟩) := by
  have hg := h.glt
  have hs := hb.size
  have hrow1 := ownsRow_kp h.row (Kp.of_below (fun _ => False) hb) (fun _ _ e => e)
  have hst := hrow1.stored (k * 3 + 2) (.slice A' L'[k].pt.ents.length c')
  have k2 := Kp.of_grown hst.2
  refine ⟨?_, ?_, ?_, ?_, ?_⟩
  · exact (map_set_pt L' k L'[k] ⟨L'[k].pt, A', c'⟩ (List.getElem?_eq_getElem hk) rfl).trans h.pts
  · have := hst.1
    rw [cellsP_set L' k L'[k] ⟨L'[k].pt, A', c'⟩ (List.getElem?_eq_getElem hk) rfl] at this
    simpa using this
  · intro x hx
    rcases List.mem_or_eq_of_mem_set hx with hx | rfl
    · exact ⟨((h.ents x hx).1.kp (Kp.of_below (fun _ => False) hb) (fun _ _ e => e)).kp k2 (fun ad ha e => h.out x hx ad ha (by injection e)), (h.ents x hx).2⟩
    · exact ⟨hR.kp k2 (fun ad ha e => by injection e with e; have := hA ad ha; omega), (h.ents _ (List.getElem_mem hk)).2⟩
  · intro x hx ad ha
    rcases List.mem_or_eq_of_mem_set hx with hx | rfl
    · exact h.out x hx ad ha
    · have := hA ad ha; omega
  · exact (h.bel.trans (hb.mono h.bel.size)).setCell hg.1 _
end

set_option maxHeartbeats 2000000 in
theorem posts_any {base : Nat} (v : Value) (L : List Pl) (w : World) (h : Pw w base w.heap.size v L) (hlen : L.length ≤ 5000) :
    Calls Tryz.prog 29 #[v] w fun e w' => ∃ v' L', e = .returned v' ∧ L'.map Pl.pt = L.map Pl.pt ∧ Pw w' w.heap.size w'.heap.size v' L' ∧ Below w.heap.size w w' := by
  have HP := Lib.hid h
  clear h
  go_enter Tryz.func29, Tryz.ntmps29
  go_wp2_with fail
  refine (cloneP_any v L w HP.out (by omega)).mono ?_
  rintro e w1 ⟨v', rfl, hrow, hb⟩
  rcases hrow.2 with ⟨hv, hn⟩ | ⟨g, cap, cur, hv, hrest⟩
  · have hL : L = [] := List.length_eq_zero_iff.1 hn
    subst hv hL
    have HB := Lib.hid hb
    clear hb HP hrow
    go_wp2_with fail
    go_loopw [9] (fun i wr => i = .int .i64 0 ∧ wr = w1) (fun _ _ => 0)
    case atStart => exact ⟨rfl, rfl⟩
    case round =>
      obtain ⟨rfl, rfl⟩ := hrel
      go_wp2
      go_ret
      exact ⟨_, [], rfl, rfl, Pw.nil _ _ _, HB.out⟩
  · subst hv
    clear hrest
    have hC : Cy w w1 g cap L L := by
      have hg := hrow.lt g rfl
      refine ⟨rfl, hrow, fun x hx => ⟨(HP.out.ents x hx).1.kp (Kp.of_below (fun _ => False) hb) (fun _ _ e => e), (HP.out.ents x hx).2⟩, fun x hx ad ha e => ?_, hb⟩
      obtain ⟨g', off, e', hg', _⟩ := (HP.out.ents x hx).1 (HP.out.ents x hx).2.1
      rw [e'] at ha
      injection ha with ha
      subst ha
      simp at e
      omega
    have HC := Lib.hid hC
    clear hC hrow hb HP
    go_wp2_with fail
    go_loopw [9] (fun i wr => ∃ (k : Nat) (L' : List Pl), k ≤ L.length ∧ i = .int .i64 k ∧ Hid (Cy w wr g cap L L')) (fun i _ => L.length - (intOf i).toNat)
    case atStart => exact ⟨0, L, Nat.zero_le _, rfl, HC⟩
    case round =>
      clear HC
      obtain ⟨k, L', hk, rfl, HC⟩ := hrel
      have hl := HC.out.len
      by_cases hlt : k < L.length
      · have hlt' : k < L'.length := by omega
        obtain ⟨c2, f2⟩ := HC.out.at_ hlt'
        obtain ⟨x, hx⟩ : ∃ x : Pl, L'[k] = x := ⟨_, rfl⟩
        rw [hx] at c2
        have hxm : x ∈ L' := hx ▸ List.getElem_mem hlt'
        obtain ⟨hR, h0, h64⟩ := HC.out.ents x hxm
        have HR := Lib.hid hR
        have hgl := HC.out.glt
        clear hR
        go_wp2_with fail
        refine (cloneE_any x.A x.c x.pt.ents wr HR.out h0 h64).mono ?_
        rintro e w2 ⟨A', c', rfl, hR2, hb2, hA2⟩
        have c3 : w2.cell? ⟨g, k * 3 + 2, none⟩ = some (.slice x.A x.pt.ents.length x.c) := (hb2.cell (p := ⟨g, k * 3 + 2, none⟩) hgl.2).trans c2
        have f3 : w2.frozen? ⟨g, k * 3 + 2, none⟩ = false := (hb2.frozen (p := ⟨g, k * 3 + 2, none⟩) hgl.2).trans f2
        have HC2 := Lib.hid (HC.out.step (c' := c') hlt' hb2 (by rw [hx]; exact hR2) hA2)
        rw [hx] at HC2
        clear hb2 hA2 hR2 HR c2 f2 HC
        go_wp2_with fail
        go_roundw
        case rel => exact ⟨k + 1, _, by omega, by go_num, HC2⟩
        case measure => simp [intOf]; omega
      · go_wp2
        go_ret
        exact ⟨.slice (some ⟨g, 0, none⟩) L'.length cap, L', by rw [hl]; rfl, HC.out.pts, ⟨HC.out.row, HC.out.ents⟩, HC.out.bel⟩

set_option maxHeartbeats 1000000 in
theorem ledgerPosts_any {base p b n : Nat} {G : Nt → Option Ac} {pv hv : Value} (L : List Pl) (w : World) (h : Led w base p b n G pv hv L) (hlen : L.length ≤ 5000) :
    Calls Tryz.prog 13 #[.pointer (some ⟨p, 0, none⟩)] w fun e w' => ∃ v' L', e = .returned v' ∧ L'.map Pl.pt = L.map Pl.pt ∧ Pw w' w.heap.size w'.heap.size v' L' ∧ Below w.heap.size w w' := by
  have c1 := h.lg.c1
  have HP := Lib.hid h.pw
  clear h
  go_enter Tryz.func13, Tryz.ntmps13
  go_wp2_with fail
  refine (posts_any pv L w HP.out hlen).mono ?_
  rintro e w' ⟨v', L', rfl, h1, h2, h3⟩
  have H1 := Lib.hid h1
  have H2 := Lib.hid h2
  have H3 := Lib.hid h3
  clear h1 h2 h3
  go_wp2
  go_ret
  exact ⟨v', L', rfl, H1.out, H2.out, H3.out⟩
end Go.Proofs.YtooeelaobmhifaaGreatDoor
