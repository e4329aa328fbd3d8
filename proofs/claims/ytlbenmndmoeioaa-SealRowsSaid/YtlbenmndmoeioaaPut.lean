/- The document's Put: a note put to a list. -/
import Derived.Test.YtlbenmndmoeioaaHas
import Derived.Deep.AppendLies
import Derived.Maps.AppendAt
namespace Go.Proofs.Ytlbenmndmoeioaa
open Go.RowKit Go.Maps
set_option linter.unusedVariables false

theorem infoNote : (Try.prog.info? 27).map (fun i => (i.zero, i.size, i.bytes)) = some (some (.agg #[.string ⟨#[]⟩, .string ⟨#[]⟩]), 2, 32) := by kernel_rfl

/-- the notes' cells -/
def cellsN (L : List Nt) : List Value := L.flatMap fun x => [.string x.1, .string x.2]
theorem cellsN_length (L : List Nt) : (cellsN L).length = L.length * 2 := by
  induction L with
  | nil => rfl
  | cons x r ih => simp [cellsN, List.flatMap_cons] at ih ⊢; omega
theorem cellsN_one (L : List Nt) : ∀ u ∈ cellsN L, u.oneCell' = true := by
  intro u hu
  obtain ⟨x, _, hx⟩ := List.mem_flatMap.1 hu
  simp at hx
  rcases hx with rfl | rfl <;> rfl
theorem cellsN_at (L : List Nt) : ∀ (i : Nat) (x : Nt), L[i]? = some x → (cellsN L)[i * 2]? = some (.string x.1) ∧ (cellsN L)[i * 2 + 1]? = some (.string x.2) := by
  induction L with
  | nil => intro i x h; simp at h
  | cons y r ih =>
    intro i x h
    cases i with
    | zero => simp at h; subst h; simp [cellsN]
    | succ j =>
      have h' : r[j]? = some x := by simpa using h
      obtain ⟨h1, h2⟩ := ih j x h'
      have e1 : (j + 1) * 2 = j * 2 + 1 + 1 := by omega
      have e2 : (j + 1) * 2 + 1 = j * 2 + 1 + 1 + 1 := by omega
      have e3 : cellsN (y :: r) = .string y.1 :: .string y.2 :: cellsN r := by simp [cellsN]
      rw [e2, e1, e3]
      simp only [List.getElem?_cons_succ]
      exact ⟨h1, h2⟩

theorem Rn.news {w : World} {B g off : Nat} {L : List Nt} (h : Rn w B (some ⟨g, off, none⟩) L) : ∀ j u, (cellsN L)[j]? = some u → w.cell? ((⟨g, off, none⟩ : Addr).add j) = some u := by
  intro j u hu
  have hj : j < (cellsN L).length := (List.getElem?_eq_some_iff.1 hu).1
  rw [cellsN_length] at hj
  have hl : 0 < L.length := by omega
  obtain ⟨g', off', e, _, hc⟩ := h hl
  injection e with e
  injection e with e1 e2
  subst e1 e2
  have hk : j / 2 < L.length := by omega
  obtain ⟨n1, n2⟩ := cellsN_at L (j / 2) _ (List.getElem?_eq_getElem hk)
  obtain ⟨m1, m2⟩ := hc (j / 2) _ (List.getElem?_eq_getElem hk)
  have ha : ∀ k, (⟨g, off, none⟩ : Addr).add k = ⟨g, off + k, none⟩ := by
    intro k
    by_cases e : k = 0
    · subst e; simp [Addr.add]
    · simp [Addr.add, e]
  rw [ha]
  rcases Nat.mod_two_eq_zero_or_one j with h0 | h0
  · have e : j = j / 2 * 2 := by omega
    rw [← e] at n1 m1
    rw [n1] at hu
    rw [m1, hu]
  · have e : j = j / 2 * 2 + 1 := by omega
    rw [Nat.add_assoc] at m2
    rw [← e] at n2 m2
    rw [n2] at hu
    rw [m2, hu]

set_option maxHeartbeats 400000 in
set_option maxRecDepth 100000 in
theorem put_no (x : Nt) (w : World) (v : Value) (h1 : x.1.size ≤ 5000) (h2 : x.2.size ≤ 5000) (hok : okN x = false) :
    Calls Try.prog 14 #[v, .agg #[.string x.1, .string x.2]] w fun e w' => e = .returned (.tuple #[v, .bool false]) ∧ Below w.heap.size w w' := by
  obtain ⟨a, t⟩ := x
  simp only at h1 h2 ⊢
  have hcs : nameB a.data.toList = false ∨ (nameB a.data.toList = true ∧ 4096 < t.size) := by
    cases hn : nameB a.data.toList
    · exact .inl rfl
    · refine .inr ⟨rfl, ?_⟩
      simp [okN, hn] at hok
      omega
  clear hok
  rcases hcs with hn | ⟨hn, h4⟩
  all_goals
    go_enter Try.func14, Try.ntmps14
    go_wp2_with fail
    refine (refName_any a _ (by unfold maxLen; omega)).mono ?_
    rintro e w' ⟨rfl, rfl⟩
    go_wp2
    go_ret2
    exact ⟨rfl, (Below.refl _ _).alloc (Nat.le_refl _) _⟩

set_option maxHeartbeats 400000 in
set_option maxRecDepth 100000 in
theorem put_old (a t : ByteArray) (w : World) (B : Nat) (A : Option Addr) (c : Nat) (L : List Nt) (hR : Rn w B A L) (hB : B ≤ w.heap.size) (hL : L.length ≤ 4096) (h1 : a.size ≤ 5000) (hn : nameB a.data.toList = true) (h4 : t.size ≤ 4096) (hh : hasN L (a, t) = true) :
    Calls Try.prog 14 #[.slice A L.length c, .agg #[.string a, .string t]] w fun e w' => e = .returned (.tuple #[.slice A L.length c, .bool true]) ∧ Below w.heap.size w w' := by
  have Hh := Lib.hid hh
  clear hh
  go_enter Try.func14, Try.ntmps14
  go_wp2_with fail
  refine (refName_any a _ (by unfold maxLen; omega)).mono ?_
  rintro e w' ⟨rfl, rfl⟩
  go_wp2_with fail
  refine (refHas_any a t _ B A c L (hR.below ((Below.refl _ _).alloc hB _)) (by simp; omega) hL).mono ?_
  rintro e w2 ⟨rfl, hb2⟩
  rw [Hh.out]
  go_wp2
  go_ret2
  have hb := (Below.refl w.heap.size w).alloc (Nat.le_refl _) (.cells #[.string a, .string t] 27)
  exact ⟨rfl, hb.trans (hb2.mono hb.size)⟩

theorem cellsN_snoc (L : List Nt) (a t : ByteArray) : cellsN (L ++ [(a, t)]) = cellsN L ++ [.string a, .string t] := by simp [cellsN]
theorem Rn.of_own {w : World} {base g c : Nat} {L : List Nt} (h : w.ownsRow base 27 2 (.slice (some ⟨g, 0, none⟩) L.length c) L.length (cellsN L)) : Rn w w.heap.size (some ⟨g, 0, none⟩) L := by
  intro hl
  refine ⟨g, 0, rfl, (h.lt g rfl).2, fun i x hx => ?_⟩
  obtain ⟨h1, h2⟩ := cellsN_at L i x hx
  have hc := h.cells (g := g) rfl
  have ha : ∀ k, (⟨g, 0, none⟩ : Addr).add k = ⟨g, 0 + k, none⟩ := by
    intro k
    by_cases e : k = 0
    · subst e; simp [Addr.add]
    · simp [Addr.add, e]
  have e1 := hc _ _ h1
  have e2 := hc _ _ h2
  rw [ha] at e1 e2
  exact ⟨e1, by rw [Nat.add_assoc]; exact e2⟩
theorem ownE (W : World) (base : Nat) (hb : base ≤ W.heap.size) : (W.alloc (.cells #[] 27)).drew.ownsRow base 27 2 (.slice (some ⟨W.heap.size, 0, none⟩) 0 0) 0 [] :=
  ⟨rfl, .inr ⟨W.heap.size, 0, #[], rfl, hb, heap_alloc_new W _, Nat.le_refl _, Nat.zero_le _, rfl, rfl⟩⟩
theorem ownE2 (W : World) (o : Obj) : ((W.alloc o).alloc (.cells #[] 27)).drew.ownsRow W.heap.size 27 2 (.slice (some ⟨W.heap.size + 1, 0, none⟩) 0 0) 0 [] := by
  have := ownE (W.alloc o) W.heap.size (by simp)
  simpa using this

theorem ownE3 (W : World) (o : Obj) : ((W.alloc (.cells #[] 27)).alloc o).drew.ownsRow W.heap.size 27 2 (.slice (some ⟨W.heap.size, 0, none⟩) 0 0) 0 [] :=
  (ownE W W.heap.size (Nat.le_refl _)).alloc o
theorem keepX {W w' : World} {g0 b i : Nat} (hg : W.grownBy w' (some g0)) (hlt : b < W.heap.size) (hne : b ≠ g0) : w'.cell? ⟨b, i, none⟩ = W.cell? ⟨b, i, none⟩ :=
  World.cell?_of_block (hg.block b hlt (fun e => hne (by injection e)))
theorem cellD3 (W : World) (a t : ByteArray) : ((W.alloc (.cells #[] 27)).alloc (.cells #[.string a, .string t] 27)).drew.heap[W.heap.size + 1]? = some (.cells #[.string a, .string t] 27 (0, 0)) := by
  have h := heap_alloc_new (W.alloc (.cells #[] 27)) (.cells #[.string a, .string t] 27)
  have e : (W.alloc (.cells #[] 27)).heap.size = W.heap.size + 1 := by simp
  rw [e] at h
  exact h
theorem cellD2 (W : World) (a t : ByteArray) : ((W.alloc (.cells #[.string a, .string t] 27)).alloc (.cells #[] 27)).drew.heap[W.heap.size]? = some (.cells #[.string a, .string t] 27 (0, 0)) := by
  have h1 := Below.heap_alloc (W.alloc (.cells #[.string a, .string t] 27)) (.cells #[] 27) W.heap.size (by simp)
  have h2 := heap_alloc_new W (.cells #[.string a, .string t] 27)
  rw [h2] at h1
  exact h1
theorem keepD {W : World} {a t : ByteArray} (gD : Nat) (hc : W.heap[gD]? = some (.cells #[.string a, .string t] 27 (0, 0))) (g0 : Nat) (hne : gD ≠ g0) (w' : World) (hg : W.grownBy w' (some g0)) :
    ∀ j u, [Value.string a, Value.string t][j]? = some u → w'.cell? ((⟨gD, 0, none⟩ : Addr).add j) = some u :=
  World.news_of_block (cs := #[.string a, .string t]) (t := 27) (fr := (0, 0)) ((hg.block gD (Array.getElem?_eq_some_iff.1 hc).1 (fun e => hne (by injection e))).trans hc)

theorem step_append_at {P : Program} (w : World) {ops : Array Oper} {o : Oper} {a : Act} {K : Act → World → Prop} {Q : Exit → Act → World → Prop} {E : Prop} (hgd : o.guard = none) (s x : Operand) (t : TypeId)
    (ho : o.op = .call { callee := .builtin .append, args := #[s, x], argTypes := #[t, t] })
    (base : Nat) (e : TypeId) (i : TypeInfo) (z : Value) (size bytes : Nat) (ht : P.underlying t = some (.slice e)) (hi : P.info? e = some i) (hz : i.zero = some z)
    (hsize : i.size = size) (hby : i.bytes = bytes) (hzs : z.cells.size = size) (hsz : 0 < size)
    (g0 n c0 : Nat) (xs : List Value) (hs : a.eval s = .slice (some ⟨g0, 0, none⟩) n c0) (hown : w.ownsRow base e size (.slice (some ⟨g0, 0, none⟩) n c0) n xs)
    (ad : Addr) (m c : Nat) (news : List Value) (hx : a.eval x = .slice (some ad) m c) (hl : news.length = m * size) (hnews : ∀ j u, news[j]? = some u → w.cell? (ad.add j) = some u) (h1 : ∀ u ∈ news, u.oneCell' = true)
    (h63 : n + m ≤ maxLen) (hbytes : (n + m) * bytes ≤ 140737488355328) (hbase : base ≤ w.heap.size)
    (h : ∀ g cap w', w'.ownsRow base e size (.slice (some ⟨g, 0, none⟩) (n + m) cap) (n + m) (xs ++ news) → w.grownBy w' (some g0) → (g = g0 ∨ g = w.heap.size) → K (a.put o.dst (.slice (some ⟨g, 0, none⟩) (n + m) cap)) w') :
    if Region.wanted o (yielded ops a.tmps) = true then Oper.wp P o a w K Q else E := by
  have hw : Region.wanted o (yielded ops a.tmps) = true := by simp [Region.wanted, hgd]
  rw [if_pos hw]
  obtain ⟨v', w', hrun, h2, h3, h4, h5⟩ := run_append_own_at (P := P) w base t o.type e i z size bytes ht hi hz hsize hby hzs hsz _ n xs hown ad m c news hl hnews h1 h63 hbytes hbase
  unfold Oper.wp execOp
  simp only [ho, resolve, invoke, builtin, Sem.run_bind, Sem.run_pure, Result.andThen_ok, List.map_toArray, List.map_cons, List.map_nil, hs, hx, hrun]
  rcases h2.2 with ⟨rfl, hn⟩ | ⟨g, cap, cur, rfl, h6⟩
  · have := (h4.1 rfl).1
    simp at this
  · refine h g cap w' h2 h3 ?_
    simpa [Value.ownBlock] using h5

set_option maxHeartbeats 1000000 in
set_option maxRecDepth 100000 in
theorem put_new (a t : ByteArray) (w : World) (B g off : Nat) (c : Nat) (L : List Nt) (hR : Rn w B (some ⟨g, off, none⟩) L) (hB : B ≤ w.heap.size) (hL : L.length < 4096) (h1 : a.size ≤ 5000) (hn : nameB a.data.toList = true) (h4 : t.size ≤ 4096) (hh : hasN L (a, t) = false) :
    Calls Try.prog 14 #[.slice (some ⟨g, off, none⟩) L.length c, .agg #[.string a, .string t]] w fun e w' => ∃ g' c', e = .returned (.tuple #[.slice (some ⟨g', 0, none⟩) (L.length + 1) c', .bool true]) ∧ Rn w' w'.heap.size (some ⟨g', 0, none⟩) (L ++ [(a, t)]) ∧ Below w.heap.size w w' := by
  have Hh := Lib.hid hh
  clear hh
  obtain ⟨i0, hi0, hz0, hz1, hz2⟩ := info_parts infoNote
  go_enter Try.func14, Try.ntmps14
  go_wp2_with fail
  refine (refName_any a _ (by unfold maxLen; omega)).mono ?_
  rintro e w' ⟨rfl, rfl⟩
  go_wp2_with fail
  refine (refHas_any a t _ B (some ⟨g, off, none⟩) c L (hR.below ((Below.refl _ _).alloc hB _)) (by simp; omega) (by omega)).mono ?_
  rintro e w2 ⟨rfl, hb2⟩
  rw [Hh.out]
  go_wp2_with fail
  have hb := (Below.refl w.heap.size w).alloc (Nat.le_refl _) (.cells #[.string a, .string t] 27)
  have HB := Lib.hid (hb.trans (hb2.mono hb.size))
  have c0 : w2.cell? ⟨w.heap.size, 0, none⟩ = some (.string a) := by
    rw [hb2.cell (p := ⟨w.heap.size, 0, none⟩) (by simp)]; simp
  have c1 : w2.cell? ⟨w.heap.size, 1, none⟩ = some (.string t) := by
    rw [hb2.cell (p := ⟨w.heap.size, 1, none⟩) (by simp)]; simp
  have hbx : w.heap.size < w2.heap.size := by have := hb2.size; simp at this; omega
  have hR2 := hR.below (HB.out.mono hB)
  clear hb hb2 hR
  generalize hbxe : w.heap.size = bx at *
  have Hbx := Lib.hid hbxe
  clear hbxe
  have hsz : bx < w2.heap.size := hbx
  go_region_held3 (fun w' => w'.cell? ⟨bx, 0, none⟩ = some (.string a) ∧ w'.cell? ⟨bx, 1, none⟩ = some (.string t))
    (first
      | go_keep)
    (first
      | (refine step_append_at _ rfl (.tmp 25) (.tmp 26) 25 rfl w2.heap.size 27 i0 _ 2 32 Try.underlying25 hi0 hz0 hz1 hz2 rfl (by omega) w2.heap.size 0 0 [] rfl (ownE w2 w2.heap.size (Nat.le_refl _)) ⟨g, off, none⟩ L.length c (cellsN L) rfl (cellsN_length L) (hR2.below ((Below.refl B w2).alloc (by omega) _)).news (cellsN_one L) (by unfold maxLen; omega) (by omega) (by simp <;> omega) ?_; intro gA capA wA hownA hgA hlocA; simp only [Nat.zero_add, List.nil_append] at hownA ⊢; have hszA := hgA.size; simp at hszA; have hgA0 := (hownA.lt gA rfl).1; have hgA1 := (hownA.lt gA rfl).2; have kA0 : wA.cell? ⟨bx, 0, none⟩ = some (.string a) := (keepX hgA (Nat.lt_of_lt_of_le hbx (((Below.refl w2.heap.size w2).alloc (Nat.le_refl _) _).drew).size) (by omega)).trans (((((Below.refl w2.heap.size w2).alloc (Nat.le_refl _) _).drew).cell (p := ⟨bx, 0, none⟩) hbx).trans c0); have kA1 : wA.cell? ⟨bx, 1, none⟩ = some (.string t) := (keepX hgA (Nat.lt_of_lt_of_le hbx (((Below.refl w2.heap.size w2).alloc (Nat.le_refl _) _).drew).size) (by omega)).trans (((((Below.refl w2.heap.size w2).alloc (Nat.le_refl _) _).drew).cell (p := ⟨bx, 1, none⟩) hbx).trans c1))
      | (refine step_append_at _ rfl (.tmp 25) (.tmp 26) 25 rfl w2.heap.size 27 i0 _ 2 32 Try.underlying25 hi0 hz0 hz1 hz2 rfl (by omega) w2.heap.size 0 0 [] rfl (ownE3 w2 (.cells #[.string a, .string t] 27)) ⟨g, off, none⟩ L.length c (cellsN L) rfl (cellsN_length L) (hR2.below (((Below.refl B w2).alloc (by omega) _).alloc (by simp; omega) _)).news (cellsN_one L) (by unfold maxLen; omega) (by omega) (by simp <;> omega) ?_; intro gA capA wA hownA hgA hlocA; simp only [Nat.zero_add, List.nil_append] at hownA ⊢; have hszA := hgA.size; simp at hszA; have hgA0 := (hownA.lt gA rfl).1; have hgA1 := (hownA.lt gA rfl).2; have kA0 : wA.cell? ⟨bx, 0, none⟩ = some (.string a) := (keepX hgA (Nat.lt_of_lt_of_le hbx ((((Below.refl w2.heap.size w2).alloc (Nat.le_refl _) _).alloc (by simp) _).drew).size) (by omega)).trans ((((((Below.refl w2.heap.size w2).alloc (Nat.le_refl _) _).alloc (by simp) _).drew).cell (p := ⟨bx, 0, none⟩) hbx).trans c0); have kA1 : wA.cell? ⟨bx, 1, none⟩ = some (.string t) := (keepX hgA (Nat.lt_of_lt_of_le hbx ((((Below.refl w2.heap.size w2).alloc (Nat.le_refl _) _).alloc (by simp) _).drew).size) (by omega)).trans ((((((Below.refl w2.heap.size w2).alloc (Nat.le_refl _) _).alloc (by simp) _).drew).cell (p := ⟨bx, 1, none⟩) hbx).trans c1); have hD := keepD (w2.heap.size + 1) (cellD3 w2 a t) _ (by omega) wA hgA)
      | (refine step_append_at _ rfl (.tmp 25) (.tmp 26) 25 rfl w2.heap.size 27 i0 _ 2 32 Try.underlying25 hi0 hz0 hz1 hz2 rfl (by omega) (w2.heap.size + 1) 0 0 [] rfl (ownE2 w2 (.cells #[.string a, .string t] 27)) ⟨g, off, none⟩ L.length c (cellsN L) rfl (cellsN_length L) (hR2.below (((Below.refl B w2).alloc (by omega) _).alloc (by simp; omega) _)).news (cellsN_one L) (by unfold maxLen; omega) (by omega) (by simp <;> omega) ?_; intro gA capA wA hownA hgA hlocA; simp only [Nat.zero_add, List.nil_append] at hownA ⊢; have hszA := hgA.size; simp at hszA; have hgA0 := (hownA.lt gA rfl).1; have hgA1 := (hownA.lt gA rfl).2; have kA0 : wA.cell? ⟨bx, 0, none⟩ = some (.string a) := (keepX hgA (Nat.lt_of_lt_of_le hbx ((((Below.refl w2.heap.size w2).alloc (Nat.le_refl _) _).alloc (by simp) _).drew).size) (by omega)).trans ((((((Below.refl w2.heap.size w2).alloc (Nat.le_refl _) _).alloc (by simp) _).drew).cell (p := ⟨bx, 0, none⟩) hbx).trans c0); have kA1 : wA.cell? ⟨bx, 1, none⟩ = some (.string t) := (keepX hgA (Nat.lt_of_lt_of_le hbx ((((Below.refl w2.heap.size w2).alloc (Nat.le_refl _) _).alloc (by simp) _).drew).size) (by omega)).trans ((((((Below.refl w2.heap.size w2).alloc (Nat.le_refl _) _).alloc (by simp) _).drew).cell (p := ⟨bx, 1, none⟩) hbx).trans c1); have hD := keepD (w2.heap.size) (cellD2 w2 a t) _ (by omega) wA hgA)
      | (refine step_append_at _ rfl (.tmp 27) (.tmp 29) 25 rfl w2.heap.size 27 i0 _ 2 32 Try.underlying25 hi0 hz0 hz1 hz2 rfl (by omega) gA L.length capA (cellsN L) rfl (hownA.alloc _) ⟨wA.heap.size, 0, none⟩ 1 1 [.string a, .string t] rfl rfl (World.news_of_block (cs := #[.string a, .string t]) (t := 27) (fr := (0, 0)) (heap_alloc_new wA _)) (by simp [Value.oneCell']) (by unfold maxLen; omega) (by omega) (by first | omega | (simp; omega)) ?_; intro gB capB wB hownB hgB hlocB; have kB0 : wB.cell? ⟨bx, 0, none⟩ = some (.string a) := (keepX hgB (by simp; omega) (by omega)).trans ((World.cell?_alloc_lt wA _ _ (by show bx < wA.heap.size; omega)).trans kA0); have kB1 : wB.cell? ⟨bx, 1, none⟩ = some (.string t) := (keepX hgB (by simp; omega) (by omega)).trans ((World.cell?_alloc_lt wA _ _ (by show bx < wA.heap.size; omega)).trans kA1))
      | (refine step_append_at _ rfl (.tmp 27) (.tmp 29) 25 rfl w2.heap.size 27 i0 _ 2 32 Try.underlying25 hi0 hz0 hz1 hz2 rfl (by omega) gA L.length capA (cellsN L) rfl (hownA) ⟨w2.heap.size + 1, 0, none⟩ 1 1 [.string a, .string t] rfl rfl (hD) (by simp [Value.oneCell']) (by unfold maxLen; omega) (by omega) (by first | omega | (simp; omega)) ?_; intro gB capB wB hownB hgB hlocB; have kB0 : wB.cell? ⟨bx, 0, none⟩ = some (.string a) := (keepX hgB (by omega) (by omega)).trans kA0; have kB1 : wB.cell? ⟨bx, 1, none⟩ = some (.string t) := (keepX hgB (by omega) (by omega)).trans kA1)
      | (refine step_append_at _ rfl (.tmp 27) (.tmp 29) 25 rfl w2.heap.size 27 i0 _ 2 32 Try.underlying25 hi0 hz0 hz1 hz2 rfl (by omega) gA L.length capA (cellsN L) rfl (hownA) ⟨w2.heap.size, 0, none⟩ 1 1 [.string a, .string t] rfl rfl (hD) (by simp [Value.oneCell']) (by unfold maxLen; omega) (by omega) (by first | omega | (simp; omega)) ?_; intro gB capB wB hownB hgB hlocB; have kB0 : wB.cell? ⟨bx, 0, none⟩ = some (.string a) := (keepX hgB (by omega) (by omega)).trans kA0; have kB1 : wB.cell? ⟨bx, 1, none⟩ = some (.string t) := (keepX hgB (by omega) (by omega)).trans kA1)
      | (trace_state; fail))
  all_goals
    go_wp2
    go_ret2
    refine ⟨gB, capB, rfl, Rn.of_own (by rw [cellsN_snoc]; simpa using hownB), ?_⟩
    rw [Hbx.out]
    refine HB.out.trans (Below.mono (B := w2.heap.size) ?_ (by omega))
    first
      | exact ((((((Below.refl w2.heap.size w2).alloc (Nat.le_refl _) _).drew).grown hgA (by simp) (fun j hj => by cases hj; omega)).alloc (by omega) _).grown hgB (by simp; omega) (fun j hj => by cases hj; omega))
      | exact ((((((Below.refl w2.heap.size w2).alloc (Nat.le_refl _) _).alloc (by simp) _).drew).grown hgA (by simp <;> omega) (fun j hj => by cases hj; omega)).grown hgB (by omega) (fun j hj => by cases hj; omega))
end Go.Proofs.Ytlbenmndmoeioaa
