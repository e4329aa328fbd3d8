/- Which boxes stand in live bills of several registers, plain: audit's lines and the document's are one. A map of own slices of texts, under way: m[k] = append(m[k], x). A chain's map of own slices of hand-overs, under way. (Turned from RGrp.) -/
import Derived.Test.YtdinloecgaapaaaGreatDoorMGHold
import Derived.Lib.Join
import Derived.Test.YtdinloecgaapaaaGreatDoorMRLive
import Derived.Test.YtdinloecgaapaaaGreatDoorRBills
namespace Go.Proofs.YtdinloecgaapaaaGreatDoor
open Go.RowKit Go.Maps Go.Lib
set_option linter.unusedVariables false

/-- a bill, as a register tells it: its boxes, its state -/
structure Bl where
  l : List ByteArray
  s : Int
/-- does a box stand in a live bill? -/
def liveB (L : List Bl) (s : ByteArray) : Bool := L.any fun b => decide (b.s = 0) && inS b.l s
/-- all boxes of rows of bills, each once, rising -/
def putsB (M : List ByteArray) (l : List ByteArray) : List ByteArray := l.foldl putS M
def boxesB (R : List (List Bl)) : List ByteArray := putsB [] (R.flatMap fun L => L.flatMap (·.l))
/-- the names of those registers where a box is live -/
def inN (N : List ByteArray) (R : List (List Bl)) (s : ByteArray) : List ByteArray := ((N.zip R).filter fun p => liveB p.2 s).map (·.1)
/-- the document's line -/
def docLine (s : ByteArray) (ns : List ByteArray) : ByteArray := ns.foldl (fun a n => a ++ (⟨#[32]⟩ : ByteArray) ++ n) s
/-- audit's line -/
def audLine (s : ByteArray) (ns : List ByteArray) : ByteArray := ⟨(Lib.join ((s :: ns).map (·.data.toList)) [32]).toArray⟩
theorem doc_aud (ns : List ByteArray) : ∀ s, docLine s ns = audLine s ns := by
  have key : ∀ s : ByteArray, (docLine s ns).data.toList = s.data.toList ++ Lib.joinTail [32] (ns.map (·.data.toList)) := by
    induction ns with
    | nil => intro s; simp [docLine, Lib.joinTail]
    | cons n ns ih =>
      intro s
      show (docLine (s ++ (⟨#[32]⟩ : ByteArray) ++ n) ns).data.toList = _
      rw [ih]
      simp [Lib.joinTail, ByteArray.data_append]
  intro s
  apply ByteArray.ext
  apply Array.toList_inj.1
  rw [key s]
  show _ = (Lib.join ((s :: ns).map (·.data.toList)) [32]).toArray.toList
  rw [List.map_cons, Lib.join_cons]
theorem puts_srt (l : List ByteArray) : ∀ M, Srt M → Srt (putsB M l) ∧ ∀ x, x ∈ putsB M l ↔ x ∈ M ∨ x ∈ l := by
  induction l with
  | nil => intro M h; exact ⟨h, fun x => by simp [putsB]⟩
  | cons y l ih =>
    intro M h
    have := ih (putS M y) (putS_srt h y)
    refine ⟨this.1, fun x => ?_⟩
    show x ∈ putsB (putS M y) l ↔ _
    rw [this.2 x, putS_has, List.mem_cons]
    constructor
    · rintro ((h | h) | h)
      · exact .inr (.inl h)
      · exact .inl h
      · exact .inr (.inr h)
    · rintro (h | h | h)
      · exact .inl (.inr h)
      · exact .inl (.inl h)
      · exact .inr h
theorem puts_snoc (M l : List ByteArray) (x : ByteArray) : putsB M (l ++ [x]) = putS (putsB M l) x := by
  unfold putsB
  rw [List.foldl_append]
  rfl
theorem boxes_srt (R : List (List Bl)) : Srt (boxesB R) ∧ ∀ x, x ∈ boxesB R ↔ ∃ L ∈ R, ∃ b ∈ L, x ∈ b.l := by
  have h := puts_srt (R.flatMap fun L => L.flatMap (·.l)) [] List.Pairwise.nil
  refine ⟨h.1, fun x => ?_⟩
  show x ∈ putsB [] _ ↔ _
  rw [h.2 x]
  simp only [List.not_mem_nil, false_or, List.mem_flatMap]
theorem live_in {L : List Bl} {s : ByteArray} (h : liveB L s = true) : ∃ b ∈ L, s ∈ b.l := by
  unfold liveB at h
  obtain ⟨b, hb, h⟩ := List.any_eq_true.1 h
  rw [Bool.and_eq_true] at h
  exact ⟨b, hb, (inS_iff b.l s).1 h.2⟩
theorem inN_some {N : List ByteArray} {R : List (List Bl)} {s : ByteArray} (h : inN N R s ≠ []) : s ∈ boxesB R := by
  unfold inN at h
  have : (N.zip R).filter (fun p => liveB p.2 s) ≠ [] := fun e => h (by rw [e]; rfl)
  obtain ⟨p, hp⟩ := List.exists_mem_of_ne_nil _ this
  obtain ⟨hp1, hp2⟩ := List.mem_filter.1 hp
  obtain ⟨b, hb, hs⟩ := live_in hp2
  exact ((boxes_srt R).2 s).2 ⟨p.2, (List.of_mem_zip hp1).2, b, hb, hs⟩
def docLive (N : List ByteArray) (R : List (List Bl)) : List ByteArray := ((boxesB R).filter fun s => decide (1 < (inN N R s).length)).map fun s => docLine s (inN N R s)
def audLive (N : List ByteArray) (R : List (List Bl)) (M : List ByteArray) : List ByteArray := (M.filter fun s => decide (1 < (inN N R s).length)).map fun s => audLine s (inN N R s)
theorem srt_filter {L : List ByteArray} (h : Srt L) (p : ByteArray → Bool) : Srt (L.filter p) := List.Pairwise.filter p h
/-- the plain law -/
theorem live_law (N : List ByteArray) (R : List (List Bl)) (M : List ByteArray) (hM : Srt M) (hm : ∀ s, s ∈ M ↔ inN N R s ≠ []) : audLive N R M = docLive N R := by
  have hb := boxes_srt R
  have e : M.filter (fun s => decide (1 < (inN N R s).length)) = (boxesB R).filter (fun s => decide (1 < (inN N R s).length)) := by
    refine srt_unique _ _ (srt_filter hM _) (srt_filter hb.1 _) fun x => ?_
    rw [List.mem_filter, List.mem_filter]
    refine and_congr_left fun h => ?_
    have hne : inN N R x ≠ [] := fun e => by rw [e] at h; simp at h
    exact ⟨fun _ => inN_some hne, fun _ => (hm x).2 hne⟩
  unfold audLive docLive
  rw [e]
  exact List.map_congr_left fun s _ => (doc_aud _ s).symm
end Go.Proofs.YtdinloecgaapaaaGreatDoor
namespace Go.Proofs.YtdinloecgaapaaaGreatDoor
open Go.RowKit Go.Maps Go.Lib Go.Sort
set_option linter.unusedVariables false
set_option maxRecDepth 100000

/-- a slice, as an element of a map -/
structure Sl where
  A : Option Nat
  n : Nat
  c : Nat
def slV (v : Sl) : Value := .slice (v.A.map fun g => ⟨g, 0, none⟩) v.n v.c
def slD (v : Sl) : DataW Unit := .agg [match v.A with | none => .nil | some g => .lit (.int .i64 (g : Int)), .lit (.int .i64 (v.n : Int)), .lit (.int .i64 (v.c : Int))]
def slR : Value → Option (DataW Unit × List MemPlace)
  | .slice none n c => some (slD ⟨none, n, c⟩, [])
  | .slice (some ⟨g, 0, none⟩) n c => some (slD ⟨some g, n, c⟩, [])
  | _ => none
def slE : ElC Sl where
  mk := slV
  dat := slD
  ok _ := True
  R := slR
  of v _ := by obtain ⟨A, n, c⟩ := v; cases A <;> rfl
  inv x z h := by
    unfold slR at h
    split at h
    · cases h; exact ⟨⟨none, _, _⟩, rfl, rfl, trivial⟩
    · cases h; exact ⟨⟨some _, _, _⟩, rfl, rfl, trivial⟩
    · cases h
  inj u v h := by
    obtain ⟨A, n, c⟩ := u
    obtain ⟨A', n', c'⟩ := v
    cases A <;> cases A' <;> simp [slD] at h ⊢ <;> omega
theorem zeroSl (W : World) : (zeroValue 22).run Tryz.prog W = .ok (slE.mk ⟨none, 0, 0⟩) W := by kernel_rfl
/-- block b is a map whose slices are own rows from the base on: F s is what lies at s; no row lies in block av -/
def Gp (base : Nat) (w : World) (b k : Nat) (av : Option Nat) (F : ByteArray → List ByteArray) : Prop :=
  base ≤ b ∧ ∃ Q : ByteArray → Option Sl, Mp nmC slE w b k Q ∧ (∀ s, Q s = none → F s = []) ∧ (∀ s v, Q s = some v → F s ≠ [] ∧ v.n = (F s).length ∧ Ow w base (slV v) (F s)) ∧
    (∀ s s' v v' g, Q s = some v → Q s' = some v' → v.A = some g → v'.A = some g → s = s') ∧ ∀ s v g, Q s = some v → v.A = some g → some g ≠ av
section
variable {base b k : Nat} {w w' : World} {av : Option Nat} {F : ByteArray → List ByteArray}
theorem own_slV (v : Sl) : (slV v).ownBlock = v.A := by
  obtain ⟨A, n, c⟩ := v
  cases A <;> rfl
theorem Gp.below (h : Gp base w b k av F) (hb : Below w.heap.size w w') {av' : Option Nat} (hav : av' = av ∨ ∀ q, av' = some q → w.heap.size ≤ q) : Gp base w' b k av' F := by
  obtain ⟨h0, Q, h1, h2, h3, h4, h5⟩ := h
  refine ⟨h0, Q, h1.below hb h1.lt, h2, fun s v hs => ⟨(h3 s v hs).1, (h3 s v hs).2.1, (h3 s v hs).2.2.keep fun q hq => hb.block q ((h3 s v hs).2.2.lt hq).2⟩, h4, fun s v g hs hg => ?_⟩
  rcases hav with e | e
  · rw [e]; exact h5 s v g hs hg
  · intro e2
    have := e g e2.symm
    have := ((h3 s v hs).2.2.lt (by rw [own_slV]; exact hg)).2
    omega
theorem Gp.more (h : Gp base w b k av F) {m : Nat} (hm : k ≤ m) : Gp base w b m av F := by
  obtain ⟨h0, Q, h1, r⟩ := h
  exact ⟨h0, Q, h1.more hm, r⟩
theorem Gp.size (h : Gp base w b k av F) : b < w.heap.size := by
  obtain ⟨_, Q, h1, _⟩ := h
  exact h1.lt
theorem Gp.isMap (h : Gp base w b k av F) : ∃ es ck, w.heap[b]? = some (.map es ck) := by
  obtain ⟨_, Q, h1, _⟩ := h
  exact h1.map?
theorem Gp.made (w : World) : Gp w.heap.size (w.alloc (.map #[] 0)) w.heap.size 0 none (fun _ => []) :=
  ⟨Nat.le_refl _, fun _ => none, Mp.made w, (fun _ _ => rfl), (fun _ _ h => by cases h), (fun _ _ _ _ _ h => by cases h), (fun _ _ _ h => by cases h)⟩
/-- what lies at a key; one text more at a key -/
theorem Gp.at_ (h : Gp base w b k av F) (s : ByteArray) (hs : s.size ≤ 1000) (hk : k < 100000000) (hbs : base ≤ w.heap.size) (hav : ∀ q, av = some q → q < w.heap.size) :
    ∃ (A0 : Option Addr) (c0 : Nat), (∀ X, Below w.heap.size w X → (Instr.lookup 71 (.map (some b)) (.string s) false).run Tryz.prog X = .ok (.slice A0 (F s).length c0) X) ∧ Ow w base (.slice A0 (F s).length c0) (F s) ∧
      (∀ q, (Value.slice A0 (F s).length c0).ownBlock = some q → some q ≠ av) ∧
      ∀ X w7 g7 cap7 x, Below w.heap.size w X → X.grownBy w7 (Value.slice A0 (F s).length c0).ownBlock → Ow w7 base (.slice (some ⟨g7, 0, none⟩) ((F s).length + 1) cap7) (F s ++ [x]) → ((Value.slice A0 (F s).length c0).ownBlock = some g7 ∨ w.heap.size ≤ g7) →
        ∃ w8, (Instr.mapUpdate 71 (.map (some b)) (.string s) (.slice (some ⟨g7, 0, none⟩) ((F s).length + 1) cap7)).run Tryz.prog w7 = .ok () w8 ∧ Gp base w8 b (k + 1) av (fun y => if y = s then F s ++ [x] else F y) ∧ Below base w w8 ∧
          ∀ q o, w.heap[q]? = some o → some q ≠ (Value.slice A0 (F s).length c0).ownBlock → q ≠ b → w8.heap[q]? = some o := by
  obtain ⟨h0, Q, h1, h2, h3, h4, h5⟩ := h
  have hsm : s.size ≤ maxLen := by unfold maxLen; omega
  obtain ⟨v0, hv0⟩ : ∃ v0 : Sl, v0 = (Q s).getD ⟨none, 0, 0⟩ := ⟨_, rfl⟩
  have hn : v0.n = (F s).length := by
    cases hq : Q s with
    | none => rw [hv0, hq, h2 s hq]; rfl
    | some v => rw [hv0, hq]; exact (h3 s v hq).2.1
  have how : Ow w base (slV v0) (F s) := by
    cases hq : Q s with
    | none => rw [hv0, hq, h2 s hq]; exact Ow.nil w base
    | some v => rw [hv0, hq]; exact (h3 s v hq).2.2
  have hsl : slV v0 = .slice (v0.A.map fun g => ⟨g, 0, none⟩) (F s).length v0.c := by unfold slV; rw [hn]
  have hob : (Value.slice (v0.A.map fun g => ⟨g, 0, none⟩) (F s).length v0.c).ownBlock = v0.A := by rw [← hsl, own_slV]
  have hQ0 : ∀ g, v0.A = some g → ∃ v, Q s = some v ∧ v.A = some g := fun g hg => by
    cases hq : Q s with
    | none => rw [hv0, hq] at hg; cases hg
    | some v => rw [hv0, hq] at hg; exact ⟨v, rfl, hg⟩
  refine ⟨v0.A.map fun g => ⟨g, 0, none⟩, v0.c, fun X hX => ?_, by rw [← hsl]; exact how, fun q hq => ?_, fun X w7 g7 cap7 x hX hg hrow hloc => ?_⟩
  · have := (h1.below hX h1.lt).look (t := 71) (e := 22) Tryz.underlying71 (zeroSl X) trivial (x := s) hsm
    rw [← hv0] at this
    rw [← hsl]
    exact this
  · rw [hob] at hq
    obtain ⟨v, hv, hg⟩ := hQ0 q hq
    exact h5 s v q hv hg
  · rw [hob] at hg hloc
    have hbw := h1.lt
    have hmapb := h1.map?
    have hA0 : ∀ g, v0.A = some g → base ≤ g ∧ g < w.heap.size ∧ g ≠ b ∧ ∃ cs, w.heap[g]? = some (.cells cs 9 (0, 0)) := fun g hg => by
      have hob2 : (slV v0).ownBlock = some g := by rw [own_slV]; exact hg
      obtain ⟨cs, hcs⟩ := row_blk how hob2
      refine ⟨(how.lt hob2).1, (how.lt hob2).2, ?_, cs, hcs⟩
      rintro rfl
      obtain ⟨es, ck, hm⟩ := hmapb
      rw [hcs] at hm
      cases hm
    have hXs := hX.size
    have hb7 : Below base w w7 := (hX.mono hbs).grown hg (Nat.le_trans hbs hXs) (fun j hj => (hA0 j hj).1)
    have hk7 : ∀ q o, w.heap[q]? = some o → some q ≠ v0.A → w7.heap[q]? = some o := fun q o hq hne => (hg.block q (Nat.lt_of_lt_of_le (lt_of_some hq) hXs) (fun e => hne e)).trans ((hX.block q (lt_of_some hq)).trans hq)
    have h17 : Mp nmC slE w7 b k Q := (h1.below hX h1.lt).kept hg (fun e => (hA0 b e.symm).2.2.1 rfl)
    obtain ⟨w8, hst, hm8, ht8⟩ := h17.store (t := 71) (e := 22) Tryz.underlying71 (by unfold maxLen; omega) (x := s) hsm (v := ⟨some g7, (F s).length + 1, cap7⟩) trivial
    have hg7 : g7 < w7.heap.size := (hrow.lt (q := g7) rfl).2
    have hgb : base ≤ g7 := (hrow.lt (q := g7) rfl).1
    have h78 : ∀ q o, w7.heap[q]? = some o → q ≠ b → w8.heap[q]? = some o := fun q o hq hne => (ht8.grown.block q (lt_of_some hq) (fun e => hne (by injection e))).trans hq
    have hg7b : g7 ≠ b := by
      rintro rfl
      obtain ⟨cs, hcs⟩ := row_blk hrow (g := g7) rfl
      obtain ⟨es, ck, hm⟩ := h17.map?
      rw [hcs] at hm
      cases hm
    have hkeep : ∀ v L, Ow w7 base v L → Ow w8 base v L := fun v L ho => ho.keep fun q hq => by
      obtain ⟨cs, hcs⟩ := row_blk ho hq
      rw [hcs]
      refine h78 q _ hcs ?_
      rintro rfl
      obtain ⟨es, ck, hm⟩ := h17.map?
      rw [hcs] at hm
      cases hm
    refine ⟨w8, hst, ⟨h0, _, hm8, fun y hy => ?_, fun y v hy => ?_, fun y y' v v' g hy hy' hgv hgv' => ?_, fun y v g hy hgv => ?_⟩, ?_, fun q o hq hne hqb => h78 q o (hk7 q o hq (by rw [← hob]; exact hne)) hqb⟩
    · by_cases e : y = s
      · subst e; rw [putG_same] at hy; cases hy
      · rw [putG_other _ _ e] at hy; simp only [if_neg e]; exact h2 y hy
    · by_cases e : y = s
      · subst e
        rw [putG_same] at hy
        cases hy
        simp only [eq_self, ↓reduceIte]
        exact ⟨by simp, by simp, hkeep _ _ (by simpa [slV] using hrow)⟩
      · rw [putG_other _ _ e] at hy
        simp only [if_neg e]
        obtain ⟨q1, q2, q3⟩ := h3 y v hy
        refine ⟨q1, q2, hkeep _ _ (q3.keep fun q hq => ?_)⟩
        obtain ⟨cs, hcs⟩ := row_blk q3 hq
        rw [hcs]
        refine hk7 q _ hcs fun e2 => e ?_
        obtain ⟨v', hv', hg'⟩ := hQ0 q e2.symm
        exact h4 y s v v' q hy hv' (by rw [← own_slV]; exact hq) hg'
    · have key : ∀ y v, y ≠ s → Q y = some v → v.A = some g7 → False := fun y v hne hy hgv => by
        rcases hloc with e | e
        · obtain ⟨v', hv', hg'⟩ := hQ0 g7 e
          exact hne (h4 y s v v' g7 hy hv' hgv hg')
        · have := ((h3 y v hy).2.2.lt (by rw [own_slV]; exact hgv)).2
          omega
      by_cases e : y = s
      · by_cases e' : y' = s
        · rw [e, e']
        · exfalso
          subst e
          rw [putG_same] at hy
          cases hy
          cases hgv
          rw [putG_other _ _ e'] at hy'
          exact key y' v' e' hy' hgv'
      · by_cases e' : y' = s
        · exfalso
          subst e'
          rw [putG_same] at hy'
          cases hy'
          cases hgv'
          rw [putG_other _ _ e] at hy
          exact key y v e hy hgv
        · rw [putG_other _ _ e] at hy
          rw [putG_other _ _ e'] at hy'
          exact h4 y y' v v' g hy hy' hgv hgv'
    · by_cases e : y = s
      · subst e
        rw [putG_same] at hy
        cases hy
        cases hgv
        rcases hloc with e | e
        · obtain ⟨v', hv', hg'⟩ := hQ0 g7 e
          exact h5 y v' g7 hv' hg'
        · intro e2
          have := hav g7 e2.symm
          omega
      · rw [putG_other _ _ e] at hy
        exact h5 y v g hy hgv
    · exact hb7.grown ht8.grown (Nat.le_trans (Nat.le_trans hbs hXs) hg.size) (fun j hj => by cases hj; exact h0)
end
end Go.Proofs.YtdinloecgaapaaaGreatDoor
namespace Go.Proofs.YtdinloecgaapaaaGreatDoor
open Go.RowKit Go.Maps Go.Lib Go.Sort
set_option linter.unusedVariables false
set_option maxRecDepth 100000

/-- a hand-over -/
structure Hn where
  bx : ByteArray
  fr : ByteArray
  tt : ByteArray
  pl : ByteArray
  day : Int
def hnC (h : Hn) : List Value := [.string h.bx, .string h.fr, .string h.tt, .string h.pl, .int .i64 h.day]
theorem hnC_one (h : Hn) : ∀ u ∈ hnC h, u.oneCell' = true := by
  intro u hu
  simp only [hnC, List.mem_cons, List.not_mem_nil, or_false] at hu
  rcases hu with rfl | rfl | rfl | rfl | rfl <;> rfl
/-- an own row of hand-overs -/
def Oh (w : World) (base : Nat) (v : Value) (L : List Hn) : Prop := w.ownsRow base 41 5 v L.length (L.flatMap hnC)
theorem Oh.nil (w : World) (base : Nat) : Oh w base (.slice none 0 0) [] := World.ownsRow_nil _ _ _ _
theorem Oh.keep {w w' : World} {base : Nat} {v : Value} {L : List Hn} (h : Oh w base v L) (hk : ∀ q, v.ownBlock = some q → w'.heap[q]? = w.heap[q]?) : Oh w' base v L := by
  refine ⟨h.1, ?_⟩
  rcases h.2 with h2 | ⟨g, cap, cur, e, hb, hg, h4⟩
  · exact .inl h2
  · refine .inr ⟨g, cap, cur, e, hb, ?_, h4⟩
    rw [hk g (by rw [e]; rfl)]
    exact hg
theorem Oh.lt {w : World} {base : Nat} {v : Value} {L : List Hn} (h : Oh w base v L) {q : Nat} (hq : v.ownBlock = some q) : base ≤ q ∧ q < w.heap.size := World.ownsRow.lt h q hq
theorem zeroHl (W : World) : (zeroValue 37).run Tryz.prog W = .ok (slE.mk ⟨none, 0, 0⟩) W := by kernel_rfl
/-- block b is a map whose slices are own rows from the base on: F s is what lies at s; no row lies in block av -/
def Gq (base : Nat) (w : World) (b k : Nat) (av : Option Nat) (F : ByteArray → List Hn) : Prop :=
  base ≤ b ∧ ∃ Q : ByteArray → Option Sl, Mp nmC slE w b k Q ∧ (∀ s, Q s = none → F s = []) ∧ (∀ s v, Q s = some v → F s ≠ [] ∧ v.n = (F s).length ∧ Oh w base (slV v) (F s)) ∧
    (∀ s s' v v' g, Q s = some v → Q s' = some v' → v.A = some g → v'.A = some g → s = s') ∧ ∀ s v g, Q s = some v → v.A = some g → some g ≠ av
section
variable {base b k : Nat} {w w' : World} {av : Option Nat} {F : ByteArray → List Hn}
theorem Gq.below (h : Gq base w b k av F) (hb : Below w.heap.size w w') {av' : Option Nat} (hav : av' = av ∨ ∀ q, av' = some q → w.heap.size ≤ q) : Gq base w' b k av' F := by
  obtain ⟨h0, Q, h1, h2, h3, h4, h5⟩ := h
  refine ⟨h0, Q, h1.below hb h1.lt, h2, fun s v hs => ⟨(h3 s v hs).1, (h3 s v hs).2.1, (h3 s v hs).2.2.keep fun q hq => hb.block q ((h3 s v hs).2.2.lt hq).2⟩, h4, fun s v g hs hg => ?_⟩
  rcases hav with e | e
  · rw [e]; exact h5 s v g hs hg
  · intro e2
    have := e g e2.symm
    have := ((h3 s v hs).2.2.lt (by rw [own_slV]; exact hg)).2
    omega
theorem Gq.more (h : Gq base w b k av F) {m : Nat} (hm : k ≤ m) : Gq base w b m av F := by
  obtain ⟨h0, Q, h1, r⟩ := h
  exact ⟨h0, Q, h1.more hm, r⟩
theorem Gq.size (h : Gq base w b k av F) : b < w.heap.size := by
  obtain ⟨_, Q, h1, _⟩ := h
  exact h1.lt
theorem Gq.isMap (h : Gq base w b k av F) : ∃ es ck, w.heap[b]? = some (.map es ck) := by
  obtain ⟨_, Q, h1, _⟩ := h
  exact h1.map?
theorem Gq.made (w : World) : Gq w.heap.size (w.alloc (.map #[] 0)) w.heap.size 0 none (fun _ => []) :=
  ⟨Nat.le_refl _, fun _ => none, Mp.made w, (fun _ _ => rfl), (fun _ _ h => by cases h), (fun _ _ _ _ _ h => by cases h), (fun _ _ _ h => by cases h)⟩
/-- what lies at a key; one text more at a key -/
theorem Gq.at_ (h : Gq base w b k av F) (s : ByteArray) (hs : s.size ≤ 1000) (hk : k < 100000000) (hbs : base ≤ w.heap.size) (hav : ∀ q, av = some q → q < w.heap.size) :
    ∃ (A0 : Option Addr) (c0 : Nat), (∀ X, Below w.heap.size w X → (Instr.lookup 82 (.map (some b)) (.string s) false).run Tryz.prog X = .ok (.slice A0 (F s).length c0) X) ∧ Oh w base (.slice A0 (F s).length c0) (F s) ∧
      (∀ q, (Value.slice A0 (F s).length c0).ownBlock = some q → some q ≠ av) ∧
      ∀ X w7 g7 cap7 x, Below w.heap.size w X → X.grownBy w7 (Value.slice A0 (F s).length c0).ownBlock → Oh w7 base (.slice (some ⟨g7, 0, none⟩) ((F s).length + 1) cap7) (F s ++ [x]) → ((Value.slice A0 (F s).length c0).ownBlock = some g7 ∨ w.heap.size ≤ g7) →
        ∃ w8, (Instr.mapUpdate 82 (.map (some b)) (.string s) (.slice (some ⟨g7, 0, none⟩) ((F s).length + 1) cap7)).run Tryz.prog w7 = .ok () w8 ∧ Gq base w8 b (k + 1) av (fun y => if y = s then F s ++ [x] else F y) ∧ Below base w w8 ∧
          ∀ q o, w.heap[q]? = some o → some q ≠ (Value.slice A0 (F s).length c0).ownBlock → q ≠ b → w8.heap[q]? = some o := by
  obtain ⟨h0, Q, h1, h2, h3, h4, h5⟩ := h
  have hsm : s.size ≤ maxLen := by unfold maxLen; omega
  obtain ⟨v0, hv0⟩ : ∃ v0 : Sl, v0 = (Q s).getD ⟨none, 0, 0⟩ := ⟨_, rfl⟩
  have hn : v0.n = (F s).length := by
    cases hq : Q s with
    | none => rw [hv0, hq, h2 s hq]; rfl
    | some v => rw [hv0, hq]; exact (h3 s v hq).2.1
  have how : Oh w base (slV v0) (F s) := by
    cases hq : Q s with
    | none => rw [hv0, hq, h2 s hq]; exact Oh.nil w base
    | some v => rw [hv0, hq]; exact (h3 s v hq).2.2
  have hsl : slV v0 = .slice (v0.A.map fun g => ⟨g, 0, none⟩) (F s).length v0.c := by unfold slV; rw [hn]
  have hob : (Value.slice (v0.A.map fun g => ⟨g, 0, none⟩) (F s).length v0.c).ownBlock = v0.A := by rw [← hsl, own_slV]
  have hQ0 : ∀ g, v0.A = some g → ∃ v, Q s = some v ∧ v.A = some g := fun g hg => by
    cases hq : Q s with
    | none => rw [hv0, hq] at hg; cases hg
    | some v => rw [hv0, hq] at hg; exact ⟨v, rfl, hg⟩
  refine ⟨v0.A.map fun g => ⟨g, 0, none⟩, v0.c, fun X hX => ?_, by rw [← hsl]; exact how, fun q hq => ?_, fun X w7 g7 cap7 x hX hg hrow hloc => ?_⟩
  · have := (h1.below hX h1.lt).look (t := 82) (e := 37) Tryz.underlying82 (zeroHl X) trivial (x := s) hsm
    rw [← hv0] at this
    rw [← hsl]
    exact this
  · rw [hob] at hq
    obtain ⟨v, hv, hg⟩ := hQ0 q hq
    exact h5 s v q hv hg
  · rw [hob] at hg hloc
    have hbw := h1.lt
    have hmapb := h1.map?
    have hA0 : ∀ g, v0.A = some g → base ≤ g ∧ g < w.heap.size ∧ g ≠ b ∧ ∃ cs, w.heap[g]? = some (.cells cs 41 (0, 0)) := fun g hg => by
      have hob2 : (slV v0).ownBlock = some g := by rw [own_slV]; exact hg
      obtain ⟨cs, hcs⟩ := row_blk how hob2
      refine ⟨(how.lt hob2).1, (how.lt hob2).2, ?_, cs, hcs⟩
      rintro rfl
      obtain ⟨es, ck, hm⟩ := hmapb
      rw [hcs] at hm
      cases hm
    have hXs := hX.size
    have hb7 : Below base w w7 := (hX.mono hbs).grown hg (Nat.le_trans hbs hXs) (fun j hj => (hA0 j hj).1)
    have hk7 : ∀ q o, w.heap[q]? = some o → some q ≠ v0.A → w7.heap[q]? = some o := fun q o hq hne => (hg.block q (Nat.lt_of_lt_of_le (lt_of_some hq) hXs) (fun e => hne e)).trans ((hX.block q (lt_of_some hq)).trans hq)
    have h17 : Mp nmC slE w7 b k Q := (h1.below hX h1.lt).kept hg (fun e => (hA0 b e.symm).2.2.1 rfl)
    obtain ⟨w8, hst, hm8, ht8⟩ := h17.store (t := 82) (e := 37) Tryz.underlying82 (by unfold maxLen; omega) (x := s) hsm (v := ⟨some g7, (F s).length + 1, cap7⟩) trivial
    have hg7 : g7 < w7.heap.size := (hrow.lt (q := g7) rfl).2
    have hgb : base ≤ g7 := (hrow.lt (q := g7) rfl).1
    have h78 : ∀ q o, w7.heap[q]? = some o → q ≠ b → w8.heap[q]? = some o := fun q o hq hne => (ht8.grown.block q (lt_of_some hq) (fun e => hne (by injection e))).trans hq
    have hg7b : g7 ≠ b := by
      rintro rfl
      obtain ⟨cs, hcs⟩ := row_blk hrow (g := g7) rfl
      obtain ⟨es, ck, hm⟩ := h17.map?
      rw [hcs] at hm
      cases hm
    have hkeep : ∀ v L, Oh w7 base v L → Oh w8 base v L := fun v L ho => ho.keep fun q hq => by
      obtain ⟨cs, hcs⟩ := row_blk ho hq
      rw [hcs]
      refine h78 q _ hcs ?_
      rintro rfl
      obtain ⟨es, ck, hm⟩ := h17.map?
      rw [hcs] at hm
      cases hm
    refine ⟨w8, hst, ⟨h0, _, hm8, fun y hy => ?_, fun y v hy => ?_, fun y y' v v' g hy hy' hgv hgv' => ?_, fun y v g hy hgv => ?_⟩, ?_, fun q o hq hne hqb => h78 q o (hk7 q o hq (by rw [← hob]; exact hne)) hqb⟩
    · by_cases e : y = s
      · subst e; rw [putG_same] at hy; cases hy
      · rw [putG_other _ _ e] at hy; simp only [if_neg e]; exact h2 y hy
    · by_cases e : y = s
      · subst e
        rw [putG_same] at hy
        cases hy
        simp only [eq_self, ↓reduceIte]
        exact ⟨by simp, by simp, hkeep _ _ (by simpa [slV] using hrow)⟩
      · rw [putG_other _ _ e] at hy
        simp only [if_neg e]
        obtain ⟨q1, q2, q3⟩ := h3 y v hy
        refine ⟨q1, q2, hkeep _ _ (q3.keep fun q hq => ?_)⟩
        obtain ⟨cs, hcs⟩ := row_blk q3 hq
        rw [hcs]
        refine hk7 q _ hcs fun e2 => e ?_
        obtain ⟨v', hv', hg'⟩ := hQ0 q e2.symm
        exact h4 y s v v' q hy hv' (by rw [← own_slV]; exact hq) hg'
    · have key : ∀ y v, y ≠ s → Q y = some v → v.A = some g7 → False := fun y v hne hy hgv => by
        rcases hloc with e | e
        · obtain ⟨v', hv', hg'⟩ := hQ0 g7 e
          exact hne (h4 y s v v' g7 hy hv' hgv hg')
        · have := ((h3 y v hy).2.2.lt (by rw [own_slV]; exact hgv)).2
          omega
      by_cases e : y = s
      · by_cases e' : y' = s
        · rw [e, e']
        · exfalso
          subst e
          rw [putG_same] at hy
          cases hy
          cases hgv
          rw [putG_other _ _ e'] at hy'
          exact key y' v' e' hy' hgv'
      · by_cases e' : y' = s
        · exfalso
          subst e'
          rw [putG_same] at hy'
          cases hy'
          cases hgv'
          rw [putG_other _ _ e] at hy
          exact key y v e hy hgv
        · rw [putG_other _ _ e] at hy
          rw [putG_other _ _ e'] at hy'
          exact h4 y y' v v' g hy hy' hgv hgv'
    · by_cases e : y = s
      · subst e
        rw [putG_same] at hy
        cases hy
        cases hgv
        rcases hloc with e | e
        · obtain ⟨v', hv', hg'⟩ := hQ0 g7 e
          exact h5 y v' g7 hv' hg'
        · intro e2
          have := hav g7 e2.symm
          omega
      · rw [putG_other _ _ e] at hy
        exact h5 y v g hy hgv
    · exact hb7.grown ht8.grown (Nat.le_trans (Nat.le_trans hbs hXs) hg.size) (fun j hj => by cases hj; exact h0)
end
end Go.Proofs.YtdinloecgaapaaaGreatDoor
