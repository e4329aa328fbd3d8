/- ledger.posts, Ledger.Posts: the posts, copied. audit.sums, ref56.Moved: what was sent, or got, by posts. -/
import Derived.Test.YtdinloecgaapaaaGreatDoorMGEntry
import Derived.Test.YtdinloecgaapaaaGreatDoorMABump
import Derived.Laws.OwnMore
namespace Go.Proofs.YtdinloecgaapaaaGreatDoor
open Go.RowKit Go.Maps Go.Lib
set_option linter.unusedVariables false
set_option maxRecDepth 100000

theorem cellsP_set : ∀ (T : List Pl) (k : Nat) (t u : Pl), T[k]? = some t → u.pt = t.pt → (cellsP T).set (k * 3 + 2) (.slice u.A u.pt.ents.length u.c) = cellsP (T.set k u)
  | [], k, t, u, h, _ => by simp at h
  | x :: T, 0, t, u, h, hu => by
    simp at h
    subst h
    simp [cellsP, Pl.cells, hu]
  | x :: T, k + 1, t, u, h, hu => by
    have := cellsP_set T k t u (by simpa using h) hu
    have e : cellsP (x :: T) = .int .i64 x.pt.num :: .string x.pt.text :: .slice x.A x.pt.ents.length x.c :: cellsP T := rfl
    have e1 : (k + 1) * 3 + 2 = (k * 3 + 2) + 1 + 1 + 1 := by omega
    rw [e, e1, List.set_cons_succ, List.set_cons_succ, List.set_cons_succ, this]
    rfl
theorem map_set_pt (T : List Pl) (k : Nat) (t u : Pl) (h : T[k]? = some t) (hu : u.pt = t.pt) : (T.set k u).map Pl.pt = T.map Pl.pt := by
  rw [List.map_set, hu]
  apply List.ext_getElem?
  intro i
  rw [List.getElem?_set]
  split
  · rename_i e
    subst e
    obtain ⟨hk, hx⟩ := List.getElem?_eq_some_iff.1 h
    simp [hk, hx]
  · rfl

/-- how far the copying has come: the row is block g -/
structure Cy (w0 w : World) (g cap : Nat) (L L' : List Pl) : Prop where
  pts : L'.map Pl.pt = L.map Pl.pt
  row : w.ownsRow w0.heap.size 156 3 (.slice (some ⟨g, 0, none⟩) L'.length cap) L'.length (cellsP L')
  ents : ∀ x ∈ L', Re w w.heap.size x.A x.pt.ents ∧ 0 < x.pt.ents.length ∧ x.pt.ents.length ≤ 64
  out : ∀ x ∈ L', ∀ ad, x.A = some ad → ad.block ≠ g
  bel : Below w0.heap.size w0 w
section
variable {w0 w w1 : World} {g cap : Nat} {L L' : List Pl}
theorem Cy.len (h : Cy w0 w g cap L L') : L'.length = L.length := by have := congrArg List.length h.pts; simpa using this
theorem Cy.glt (h : Cy w0 w g cap L L') : w0.heap.size ≤ g ∧ g < w.heap.size := h.row.lt g rfl
theorem Cy.at_ (h : Cy w0 w g cap L L') {k : Nat} (hk : k < L'.length) : w.cell? ⟨g, k * 3 + 2, none⟩ = some (.slice L'[k].A L'[k].pt.ents.length L'[k].c) ∧ w.frozen? ⟨g, k * 3 + 2, none⟩ = false := by
  refine ⟨?_, h.row.frozenAt _⟩
  rw [h.row.cellAt (k * 3 + 2) (by omega)]
  exact (cellsP_at L' k _ (List.getElem?_eq_getElem hk)).2.2
theorem Cy.step {A' : Option Addr} {c' k : Nat} (h : Cy w0 w g cap L L') (hk : k < L'.length) (hb : Below w.heap.size w w1) (hR : Re w1 w1.heap.size A' L'[k].pt.ents) (hA : ∀ ad, A' = some ad → w.heap.size ≤ ad.block) :
    Cy w0 (w1.setCell ⟨g, k * 3 + 2, none⟩ (.slice A' L'[k].pt.ents.length c')) g cap L (L'.set k ⟨L'[k].pt, A', c'⟩) := by
  have hg := h.glt
  have hs := hb.size
  have hrow1 := ownsRow_kp h.row (Kp.of_below (fun _ => False) hb) (fun _ _ e => e)
  have hst := hrow1.stored (k * 3 + 2) (.slice A' L'[k].pt.ents.length c')
  have k2 := Kp.of_grown hst.2
  refine ⟨?_, ?_, ?_, ?_, ?_⟩
  · exact (map_set_pt L' k L'[k] ⟨L'[k].pt, A', c'⟩ (List.getElem?_eq_getElem hk) rfl).trans h.pts
  · have := hst.1
    rw [cellsP_set L' k L'[k] ⟨L'[k].pt, A', c'⟩ (List.getElem?_eq_getElem hk) rfl] at this
    simpa using this
  · intro x hx
    rcases List.mem_or_eq_of_mem_set hx with hx | rfl
    · exact ⟨((h.ents x hx).1.kp (Kp.of_below (fun _ => False) hb) (fun _ _ e => e)).kp k2 (fun ad ha e => h.out x hx ad ha (by injection e)), (h.ents x hx).2⟩
    · exact ⟨hR.kp k2 (fun ad ha e => by injection e with e; have := hA ad ha; omega), (h.ents _ (List.getElem_mem hk)).2⟩
  · intro x hx ad ha
    rcases List.mem_or_eq_of_mem_set hx with hx | rfl
    · exact h.out x hx ad ha
    · have := hA ad ha; omega
  · exact (h.bel.trans (hb.mono h.bel.size)).setCell hg.1 _
end

set_option maxHeartbeats 2000000 in
theorem posts_any {base : Nat} (v : Value) (L : List Pl) (w : World) (h : Pw w base w.heap.size v L) (hlen : L.length ≤ 5000) :
    Calls Tryz.prog 100 #[v] w fun e w' => ∃ v' L', e = .returned v' ∧ L'.map Pl.pt = L.map Pl.pt ∧ Pw w' w.heap.size w'.heap.size v' L' ∧ Below w.heap.size w w' := by
  have HP := Lib.hid h
  clear h
  go_enter Tryz.func100, Tryz.ntmps100
  go_wp2_with fail
  refine (cloneP_any v L w HP.out (by omega)).mono ?_
  rintro e w1 ⟨v', rfl, hrow, hb⟩
  rcases hrow.2 with ⟨hv, hn⟩ | ⟨g, cap, cur, hv, hrest⟩
  · have hL : L = [] := List.length_eq_zero_iff.1 hn
    subst hv hL
    have HB := Lib.hid hb
    clear hb HP hrow
    go_wp2_with fail
    go_loopw [9] (fun i wr => i = .int .i64 0 ∧ wr = w1) (fun _ _ => 0)
    case atStart => exact ⟨rfl, rfl⟩
    case round =>
      obtain ⟨rfl, rfl⟩ := hrel
      go_wp2
      go_ret
      exact ⟨_, [], rfl, rfl, Pw.nil _ _ _, HB.out⟩
  · subst hv
    clear hrest
    have hC : Cy w w1 g cap L L := by
      have hg := hrow.lt g rfl
      refine ⟨rfl, hrow, fun x hx => ⟨(HP.out.ents x hx).1.kp (Kp.of_below (fun _ => False) hb) (fun _ _ e => e), (HP.out.ents x hx).2⟩, fun x hx ad ha e => ?_, hb⟩
      obtain ⟨g', off, e', hg', _⟩ := (HP.out.ents x hx).1 (HP.out.ents x hx).2.1
      rw [e'] at ha
      injection ha with ha
      subst ha
      simp at e
      omega
    have HC := Lib.hid hC
    clear hC hrow hb HP
    go_wp2_with fail
    go_loopw [9] (fun i wr => ∃ (k : Nat) (L' : List Pl), k ≤ L.length ∧ i = .int .i64 k ∧ Hid (Cy w wr g cap L L')) (fun i _ => L.length - (intOf i).toNat)
    case atStart => exact ⟨0, L, Nat.zero_le _, rfl, HC⟩
    case round =>
      clear HC
      obtain ⟨k, L', hk, rfl, HC⟩ := hrel
      have hl := HC.out.len
      by_cases hlt : k < L.length
      · have hlt' : k < L'.length := by omega
        obtain ⟨c2, f2⟩ := HC.out.at_ hlt'
        obtain ⟨x, hx⟩ : ∃ x : Pl, L'[k] = x := ⟨_, rfl⟩
        rw [hx] at c2
        have hxm : x ∈ L' := hx ▸ List.getElem_mem hlt'
        obtain ⟨hR, h0, h64⟩ := HC.out.ents x hxm
        have HR := Lib.hid hR
        have hgl := HC.out.glt
        clear hR
        go_wp2_with fail
        refine (cloneE_any x.A x.c x.pt.ents wr HR.out h0 h64).mono ?_
        rintro e w2 ⟨A', c', rfl, hR2, hb2, hA2⟩
        have c3 : w2.cell? ⟨g, k * 3 + 2, none⟩ = some (.slice x.A x.pt.ents.length x.c) := (hb2.cell (p := ⟨g, k * 3 + 2, none⟩) hgl.2).trans c2
        have f3 : w2.frozen? ⟨g, k * 3 + 2, none⟩ = false := (hb2.frozen (p := ⟨g, k * 3 + 2, none⟩) hgl.2).trans f2
        have HC2 := Lib.hid (HC.out.step (c' := c') hlt' hb2 (by rw [hx]; exact hR2) hA2)
        rw [hx] at HC2
        clear hb2 hA2 hR2 HR c2 f2 HC
        go_wp2_with fail
        go_roundw
        case rel => exact ⟨k + 1, _, by omega, by go_num, HC2⟩
        case measure => simp [intOf]; omega
      · go_wp2
        go_ret
        exact ⟨.slice (some ⟨g, 0, none⟩) L'.length cap, L', by rw [hl]; rfl, HC.out.pts, ⟨HC.out.row, HC.out.ents⟩, HC.out.bel⟩

set_option maxHeartbeats 1000000 in
theorem ledgerPosts_any {base p b n : Nat} {G : Nt → Option Ac} {pv hv : Value} (L : List Pl) (w : World) (h : Led w base p b n G pv hv L) (hlen : L.length ≤ 5000) :
    Calls Tryz.prog 74 #[.pointer (some ⟨p, 0, none⟩)] w fun e w' => ∃ v' L', e = .returned v' ∧ L'.map Pl.pt = L.map Pl.pt ∧ Pw w' w.heap.size w'.heap.size v' L' ∧ Below w.heap.size w w' := by
  have c1 := h.lg.c1
  have HP := Lib.hid h.pw
  clear h
  go_enter Tryz.func74, Tryz.ntmps74
  go_wp2_with fail
  refine (posts_any pv L w HP.out hlen).mono ?_
  rintro e w' ⟨v', L', rfl, h1, h2, h3⟩
  have H1 := Lib.hid h1
  have H2 := Lib.hid h2
  have H3 := Lib.hid h3
  clear h1 h2 h3
  go_wp2
  go_ret
  exact ⟨v', L', rfl, H1.out, H2.out, H3.out⟩
end Go.Proofs.YtdinloecgaapaaaGreatDoor
namespace Go.Proofs.YtdinloecgaapaaaGreatDoor
open Go.RowKit Go.Maps Go.Lib
set_option linter.unusedVariables false
set_option maxRecDepth 100000

structure Mo where
  cur : ByteArray
  n : Int
def Mo.cells (x : Mo) : List Value := [.string x.cur, .int .i64 x.n]
def cellsM (T : List Mo) : List Value := T.flatMap Mo.cells
theorem cellsM_len (T : List Mo) : (cellsM T).length = T.length * 2 := by
  induction T with
  | nil => rfl
  | cons e T ih => simp [cellsM, Mo.cells] at ih ⊢; omega
theorem cellsM_snoc (T : List Mo) (t : Mo) : cellsM (T ++ [t]) = cellsM T ++ t.cells := by simp [cellsM]
theorem cellsM_at : ∀ (T : List Mo) (i : Nat) (t : Mo), T[i]? = some t → (cellsM T)[i * 2]? = some (.string t.cur) ∧ (cellsM T)[i * 2 + 1]? = some (.int .i64 t.n)
  | [], i, t, h => by simp at h
  | u :: T, 0, t, h => by simp at h; subst h; exact ⟨rfl, rfl⟩
  | u :: T, i + 1, t, h => by
    have := cellsM_at T i t (by simpa using h)
    have e : cellsM (u :: T) = .string u.cur :: .int .i64 u.n :: cellsM T := rfl
    rw [e]
    have e0 : (i + 1) * 2 = i * 2 + 1 + 1 := by omega
    have e1 : (i + 1) * 2 + 1 = i * 2 + 1 + 1 + 1 := by omega
    rw [e1, e0]
    exact this
theorem money_info : (Tryz.prog.info? 111).map (fun i => (i.zero, i.size, i.bytes)) = some (some (.agg #[.string ⟨#[]⟩, .int .i64 0]), 2, 24) := by kernel_rfl

/-- does an entry count? -/
def counts (acc : ByteArray) (s : Int) (e : Ent) : Bool := (e.acc.toList == acc.toList) && decide (0 < s * e.n)
def movesE (acc : ByteArray) (s : Int) (es : List Ent) : List Mo := es.filterMap fun e => if counts acc s e then some ⟨e.cur, s * e.n⟩ else none
def moves (acc : ByteArray) (s : Int) (l : List Pt) : List Mo := l.flatMap fun p => movesE acc s p.ents
theorem movesE_step (acc : ByteArray) (s : Int) (es : List Ent) (k : Nat) (h : k < es.length) : movesE acc s (es.take (k + 1)) = movesE acc s (es.take k) ++ if counts acc s es[k] then [⟨es[k].cur, s * es[k].n⟩] else [] := by
  rw [List.take_succ_eq_append_getElem h]
  simp only [movesE, List.filterMap_append]
  congr 1
  by_cases hc : counts acc s es[k] <;> simp [hc]
theorem moves_step (acc : ByteArray) (s : Int) (l : List Pt) (k : Nat) (h : k < l.length) : moves acc s (l.take (k + 1)) = moves acc s (l.take k) ++ movesE acc s l[k].ents := by
  rw [List.take_succ_eq_append_getElem h]
  simp only [moves, List.flatMap_append, List.flatMap_cons, List.flatMap_nil, List.append_nil]
theorem movesE_le (acc : ByteArray) (s : Int) (es : List Ent) : (movesE acc s es).length ≤ es.length := List.length_filterMap_le _ _
theorem moves_le (acc : ByteArray) (s : Int) (l : List Pt) (h : ∀ p ∈ l, p.ents.length ≤ 64) : (moves acc s l).length ≤ l.length * 64 := by
  induction l with
  | nil => simp [moves]
  | cons p l ih =>
    have h1 := movesE_le acc s p.ents
    have h2 := h p (by simp)
    have h3 := ih (fun q hq => h q (by simp [hq]))
    simp only [moves, List.flatMap_cons, List.length_append, List.length_cons] at h3 ⊢
    omega

section
variable {w w' w1 wr : World} {base B : Nat} {v : Value} {L : List Pl}
theorem Pw.at_ (h : Pw w base B v L) {k : Nat} (hk : k < L.length) : ∃ g cap, v = .slice (some ⟨g, 0, none⟩) L.length cap ∧ g < w.heap.size ∧ w.cell? ⟨g, k * 3, none⟩ = some (.int .i64 L[k].pt.num) ∧ w.cell? ⟨g, k * 3 + 1, none⟩ = some (.string L[k].pt.text) ∧ w.cell? ⟨g, k * 3 + 2, none⟩ = some (.slice L[k].A L[k].pt.ents.length L[k].c) := by
  have hr := h.row
  rcases hr.2 with ⟨h0, hn⟩ | ⟨g, cap, cur, he, _⟩
  · omega
  · subst he
    obtain ⟨c0, c1, c2⟩ := cellsP_at L k _ (List.getElem?_eq_getElem hk)
    exact ⟨g, cap, rfl, (hr.lt g rfl).2, (hr.cellAt _ (by omega)).trans c0, (hr.cellAt _ (by omega)).trans c1, (hr.cellAt _ (by omega)).trans c2⟩
theorem Pw.below (h : Pw w base w.heap.size v L) (hb : Below w.heap.size w w') : Pw w' base w.heap.size v L :=
  ⟨ownsRow_kp h.row (Kp.of_below (fun _ => False) hb) (fun _ _ e => e), fun x hx => ⟨(h.ents x hx).1.below hb, (h.ents x hx).2⟩⟩
/-- the sums so far -/
structure Su (w1 wr : World) (v : Value) (T : List Mo) : Prop where
  row : wr.ownsRow w1.heap.size 111 2 v T.length (cellsM T)
  bel : Below w1.heap.size w1 wr
theorem Su.alloc {T : List Mo} (h : Su w1 wr v T) (o : Obj) : Su w1 (wr.alloc o) v T := ⟨h.row.alloc o, h.bel.alloc h.bel.size o⟩
theorem Su.step {T : List Mo} {v' : Value} {m : Mo} (h : Su w1 wr v T) (hown : w'.ownsRow w1.heap.size 111 2 v' (T.length + 1) (cellsM T ++ m.cells)) (hg : wr.grownBy w' v.ownBlock) : Su w1 w' v' (T ++ [m]) :=
  ⟨by rw [cellsM_snoc]; simpa using hown, h.bel.grown hg h.bel.size (fun k hk => (h.row.lt k hk).1)⟩
end
theorem ownsRow_base {w : World} {B base : Nat} {e : TypeId} {size n : Nat} {v : Value} {xs : List Value} (hB : B ≤ base) (h : w.ownsRow base e size v n xs) : w.ownsRow B e size v n xs := by
  refine ⟨h.1, ?_⟩
  rcases h.2 with h0 | ⟨g, cap, cur, he, hb, r⟩
  · exact .inl h0
  · exact .inr ⟨g, cap, cur, he, by omega, r⟩
def moObj (m : Mo) : Obj := .cells #[.string m.cur, .int .i64 m.n] 111

set_option maxHeartbeats 4000000 in
theorem sums_any {base p b n : Nat} {G : Nt → Option Ac} {pv hv : Value} (L : List Pl) (acc : ByteArray) (s : Int) (w : World) (h : Led w base p b n G pv hv L) (hlen : L.length ≤ 4096) (hs : s = 1 ∨ s = -1) (hF : ∀ x ∈ L, ∀ e ∈ x.pt.ents, e.Fine) :
    Calls Tryz.prog 47 #[.pointer (some ⟨p, 0, none⟩), .string acc, .int .i64 s] w fun e w' => ∃ v', e = .returned v' ∧ w'.ownsRow w.heap.size 111 2 v' (moves acc s (L.map Pl.pt)).length (cellsM (moves acc s (L.map Pl.pt))) ∧ Below w.heap.size w w' := by
  obtain ⟨i0, hi0, hy0, hy1, hy2⟩ := info_parts money_info
  have HD := Lib.hid h
  have HF := Lib.hid hF
  clear h hF
  go_enter Tryz.func47, Tryz.ntmps47
  go_wp2_with fail
  refine (ledgerPosts_any L w HD.out (by omega)).mono ?_
  rintro e w1 ⟨pl, L', rfl, hpts, hP, hb⟩
  have hl' : L'.length = L.length := by have := congrArg List.length hpts; simpa using this
  have HP := Lib.hid hP
  have HB := Lib.hid hb
  have HF' : Hid (∀ x ∈ L', ∀ e ∈ x.pt.ents, e.Fine) := Lib.hid (by
    intro x hx
    have : x.pt ∈ L.map Pl.pt := by rw [← hpts]; exact List.mem_map_of_mem hx
    obtain ⟨y, hy, e⟩ := List.mem_map.1 this
    rw [← e]
    exact HF.out y hy)
  have Hpts := Lib.hid hpts
  obtain ⟨Ap, cp, rfl⟩ := hP.form
  clear HF HD hP hb hpts
  go_wp2_with fail
  go_loopw [7, 15] (fun v i wr => ∃ k : Nat, k ≤ L'.length ∧ i = .int .i64 k ∧ Hid (Su w1 wr v (moves acc s ((L'.map Pl.pt).take k)))) (fun _ i _ => L'.length - (intOf i).toNat)
  case atStart => exact ⟨0, Nat.zero_le _, rfl, Lib.hid ⟨World.ownsRow_nil _ _ _ _, Below.refl _ _⟩⟩
  case round =>
    obtain ⟨k, hk, rfl, HS⟩ := hrel
    by_cases hlt : k < L'.length
    · obtain ⟨g, cap, he, hg, c0, c1, c2⟩ := (HP.out.below HS.out.bel).at_ hlt
      injection he with e1 _ e2
      subst e1 e2
      obtain ⟨⟨⟨num, text, ents⟩, A, c⟩, hx⟩ : ∃ x : Pl, L'[k] = x := ⟨_, rfl⟩
      rw [hx] at c0 c1 c2
      simp only at c0 c1 c2
      have hxm : (⟨⟨num, text, ents⟩, A, c⟩ : Pl) ∈ L' := hx ▸ List.getElem_mem hlt
      obtain ⟨hR, h0, h64⟩ := HP.out.ents _ hxm
      have HFx := Lib.hid (HF'.out _ hxm)
      have HR := Lib.hid hR
      simp only at h0 h64
      have Hst := Lib.hid (moves_step acc s (L'.map Pl.pt) k (by simpa using hlt))
      have hpk : (L'.map Pl.pt)[k]'(by simpa using hlt) = ⟨num, text, ents⟩ := by simp [hx]
      rw [hpk] at Hst
      have HSV := Lib.hid (HS.out.alloc (.cells #[.int .i64 num, .string text, .slice A ents.length c] 156))
      have Hle := Lib.hid (show (moves acc s ((L'.map Pl.pt).take k)).length ≤ 262144 from by
        have := moves_le acc s ((L'.map Pl.pt).take k) (by
          intro q hq
          obtain ⟨y, hy, rfl⟩ := List.mem_map.1 (List.mem_of_mem_take hq)
          exact (HP.out.ents y hy).2.2)
        simp only [List.length_take, List.length_map] at this
        omega)
      clear hR hx hxm hpk HS
      generalize moves acc s ((L'.map Pl.pt).take k) = T at *
      go_wp2_with fail
      clear c0 c1 c2
      generalize wr.alloc (.cells #[.int .i64 num, .string text, .slice A ents.length c] 156) = V at *
      go_loopw [7, 22] (fun v i wr => ∃ j : Nat, j ≤ ents.length ∧ i = .int .i64 j ∧ Hid (Su w1 wr v (T ++ movesE acc s (ents.take j)))) (fun _ i _ => ents.length - (intOf i).toNat)
      case atStart => exact ⟨0, Nat.zero_le _, rfl, Lib.hid (by simpa [movesE] using HSV.out)⟩
      case round =>
        clear HSV
        obtain ⟨j, hj, rfl, HS⟩ := hrel
        by_cases hjl : j < ents.length
        · obtain ⟨g2, o2, rfl, hg2, d0, d1, d2⟩ := (HR.out.below HS.out.bel).at_ hjl
          have hfe := HFx.out ents[j] (List.getElem_mem hjl)
          have Hstep := Lib.hid (movesE_step acc s ents j hjl)
          have Hle2 := Lib.hid (movesE_le acc s (ents.take j))
          obtain ⟨⟨a, cu, m⟩, he⟩ : ∃ e : Ent, ents[j] = e := ⟨_, rfl⟩
          rw [he] at d0 d1 d2 Hstep hfe
          simp only at d0 d1 d2
          have l1 := hfe.lo
          have l2 := hfe.hi
          simp only at l1 l2
          have q1 : IntKind.i64.wrap (s * m) = s * m := by rcases hs with rfl | rfl <;> exact IntWalk.i64_in _ (by omega)
          have Hs2 : Hid (T ++ movesE acc s (ents.take (j + 1)) = (T ++ movesE acc s (ents.take j)) ++ if counts acc s ⟨a, cu, m⟩ then [⟨cu, s * m⟩] else []) := Lib.hid (by rw [Hstep.out, List.append_assoc])
          have hT2 : (T ++ movesE acc s (ents.take j)).length ≤ 262208 := by have := Hle.out; have := Hle2.out; simp only [List.length_append, List.length_take] at *; omega
          have HSV := Lib.hid (HS.out.alloc (.cells #[.string a, .string cu, .int .i64 m] 107))
          clear HS he hfe Hstep Hle2
          generalize T ++ movesE acc s (ents.take j) = T2 at *
          by_cases hca : (a.toList == acc.toList) = true
          · by_cases hcm : 0 < s * m
            · have hcc : counts acc s ⟨a, cu, m⟩ = true := by simp [counts, hca, hcm]
              rw [hcc] at Hs2
              have q2 : decide (0 < s * m) = true := by simpa using hcm
              have HS2 := Lib.hid (HSV.out.alloc (.cells #[.string cu, .int .i64 (s * m)] 111))
              have hrow := HS2.out.row
              have hsz := HSV.out.bel.size
              rw [show (wr.alloc (.cells #[.string a, .string cu, .int .i64 m] 107)).heap.size = wr.heap.size + 1 from by simp] at hsz
              go_wp2_with (first
                | (at_builtin; refine wpList_append_own _ rfl _ _ 108 rfl w1.heap.size 111 i0 _ 2 24 Tryz.underlying108 hi0 hy0 hy1 hy2 rfl (by decide) _ _ _ rfl hrow ⟨wr.heap.size + 1, 0, none⟩ 1 1 [.string cu, .int .i64 (s * m)] rfl ?qc1 ?qc2 ?qc3 ?qc4 ?qc5 ?qc6 ?_)
                | go_in)
              case qc3 => exact ⟨rfl, rfl⟩
              case qc4 => unfold maxLen; omega
              case qc5 => omega
              case qc6 => omega
              intro v' w2 hown hgr _
              have HS3 := Lib.hid (HS2.out.step (m := ⟨cu, s * m⟩) hown hgr)
              clear hown hgr hrow HS2 HSV
              go_wp2_with fail
              go_roundw
              case rel => exact ⟨j + 1, by omega, by go_num, Lib.hid (by rw [Hs2.out]; exact HS3.out)⟩
              case measure => simp [intOf]; omega
            · have hcc : counts acc s ⟨a, cu, m⟩ = false := by simp [counts]; intro _; omega
              rw [hcc] at Hs2
              have q2 : decide (0 < s * m) = false := by simpa using hcm
              go_wp2_with fail
              go_roundw
              case rel => exact ⟨j + 1, by omega, by go_num, Lib.hid (by rw [Hs2.out]; simpa using HSV.out)⟩
              case measure => simp [intOf]; omega
          · have hca' : (a.toList == acc.toList) = false := by simpa using hca
            have hcc : counts acc s ⟨a, cu, m⟩ = false := by simp [counts, hca']
            rw [hcc] at Hs2
            go_wp2_with fail
            go_roundw
            case rel => exact ⟨j + 1, by omega, by go_num, Lib.hid (by rw [Hs2.out]; simpa using HSV.out)⟩
            case measure => simp [intOf]; omega
        · have hje : j = ents.length := by omega
          subst hje
          rw [List.take_length, ← Hst.out] at HS
          go_wp2_with fail
          go_roundw
          case rel => exact ⟨k + 1, by omega, by go_num, HS⟩
          case measure => simp [intOf]; omega
    · have hke : k = L'.length := by omega
      subst hke
      have HS' := HS
      rw [List.take_of_length_le (by simp)] at HS'
      clear HS
      have hs1 := HB.out.size
      go_wp2
      go_ret
      refine ⟨_, rfl, ?_, HB.out.trans (HS'.out.bel.mono hs1)⟩
      rw [← Hpts.out]
      exact ownsRow_base hs1 HS'.out.row
end Go.Proofs.YtdinloecgaapaaaGreatDoor
