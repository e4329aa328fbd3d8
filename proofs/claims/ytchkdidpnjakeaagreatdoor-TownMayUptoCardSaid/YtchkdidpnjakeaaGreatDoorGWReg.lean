/- A region that draws its order, by one fact for each operation: each operation is run once, in any world that the others may have left, from the facts of those it waits for alone. Lots, boxes, a deal: how they lie in memory. paper.Origin. paper.marks: the marks of the boxes, joined: some string of bounded length. Own rows of lots, and append to them. cmp.Compare of texts; the order of lots. Days: whether one is worked on, the next one that is; a credit's last day. The ledger's names and currencies: what they answer where all bytes are right. -/
import Derived.WalkKit
import Derived.Orders
import Derived.Deep.QuietTactic
import Derived.Test.YtchkdidpnjakeaaGreatDoorGGMap
import Derived.Test.YtchkdidpnjakeaaGreatDoorGClass
import Derived.Laws.Rows
import Derived.Deep.RegionLaw
import Derived.Laws.MakeOwn
import Derived.Lib.Join
import Derived.Laws.OwnMore
import Derived.Maps.AppendAt
import Derived.OwnWalk
import Derived.Lib.AppendZerosOnto
import Derived.Lib.AppendZeros
import Derived.Lib.SliceRun
import Derived.Sort.Walk0
import Derived.ScopeJumps
import Derived.WalkMore
import Derived.Laws.Tables
import Derived.Laws.ResultCell
import Derived.Deep.MidRow
import Derived.Deep.Cut
import Derived.Test.YtchkdidpnjakeaaGreatDoorProg
import Derived.WalkSpells
import Derived.WalkLawsBesides
import Derived.Lib.Hide
namespace Go.Proofs.YtchkdidpnjakeaaGreatDoor
open Go.RowKit

/-- the operation's value stands in its slot -/
def SlotIs (a : Act) (o : Oper) (v : Value) : Prop := ∀ d, o.dst = some d → a.tmps[d]? = some v
/-- a frame that is as a0 but in the slots of the region's operations -/
structure SameBut (l : List Oper) (a0 a : Act) : Prop where
  size : a.tmps.size = a0.tmps.size
  defers : a.defers = a0.defers
  rest : ∀ k, k ∉ l.filterMap (·.dst) → a.tmps[k]? = a0.tmps[k]?
/-- no guard, each slot once and in the frame, each operation waits for earlier ones alone -/
def factB (l : List Oper) (n : Nat) : Bool :=
  l.all (fun o => o.guard == none) && decide (l.filterMap (·.dst)).Nodup && (l.filterMap (·.dst)).all (fun d => decide (d < n)) &&
  (List.range l.length).all fun i => match l[i]? with
    | some o => o.after.all fun e => !Region.binds .any e || decide (e.on < i)
    | none => true
def waitsB (l : List Oper) (j i : Nat) : Bool := match l[j]? with
  | some o => o.after.any fun e => Region.binds .any e && e.on == i
  | none => false
theorem waits_spec {l : List Oper} {j i : Nat} (h : waitsB l j i = true) : ∃ o, l[j]? = some o ∧ ∃ e ∈ o.after, Region.binds .any e = true ∧ e.on = i := by
  unfold waitsB at h
  split at h
  · rename_i o ho
    obtain ⟨e, he, hb⟩ := Array.any_eq_true'.1 h
    simp only [Bool.and_eq_true, beq_iff_eq] at hb
    exact ⟨o, ho, e, he, hb.1, hb.2⟩
  · cases h
/-- what is listed once the heads are: the first n, and what was so ahead -/
def headsDone (l : List Oper) (L0 : Array Bool) (n : Nat) : Array Bool := Array.ofFn fun i : Fin l.length => decide (i.1 < n) || L0.getD i.1 false
def seqReady (l : List Oper) : Array Bool → List Nat → Bool
  | L, [] => decide (Region.ready .any l.toArray L = [])
  | L, t :: ts => decide (Region.ready .any l.toArray L = [t]) && seqReady l (L.setIfInBounds t true) ts
/-- the first n operations come ahead of the tail, whatever is drawn -/
def tailB (l : List Oper) (L0 : Array Bool) (n t1 : Nat) (ts : List Nat) : Bool :=
  decide (L0.size = l.length) && decide (n ≤ l.length) &&
  (List.range l.length).all (fun j => !L0.getD j false || match l[j]? with
    | some o => o.after.all fun e => !Region.binds .any e || L0.getD e.on false
    | none => true) &&
  (List.range n).all (fun i => L0.getD i false || (List.range l.length).any fun j => decide (i < j) && (decide (j < n) || j == t1) && waitsB l j i) &&
  (List.range l.length).all (fun t => decide (t < n) || L0.getD t false || t == t1 || (List.range l.length).any fun p => decide (n ≤ p) && !L0.getD p false && waitsB l t p) &&
  seqReady l (headsDone l L0 n) (t1 :: ts)
theorem count_one {f g : Nat → Bool} {i : Nat} (h0 : f i = false) (h1 : g i = true) (h : ∀ j, j ≠ i → g j = f j) : ∀ n, i < n → (List.range n).countP g = (List.range n).countP f + 1 := by
  intro n
  induction n with
  | zero => intro h; omega
  | succ n ih =>
    intro hn
    rw [List.range_succ, List.countP_append, List.countP_append, List.countP_singleton, List.countP_singleton]
    by_cases hi : i = n
    · subst hi
      have hs : (List.range i).countP g = (List.range i).countP f := by
        refine List.countP_congr fun x hx => ?_
        rw [h x (by have := List.mem_range.1 hx; omega)]
      rw [hs, h0, h1]
      rfl
    · rw [ih (by omega), h n (by omega)]
      omega
theorem rep_false (n i : Nat) : (Array.replicate n false).getD i false = false := by
  rw [Array.getD_eq_getD_getElem?]
  by_cases h : i < n
  · rw [Array.getElem?_replicate, if_pos h]; rfl
  · rw [Array.getElem?_replicate, if_neg h]; rfl
theorem nodup_dst {l : List Oper} (h : (l.filterMap (·.dst)).Nodup) : ∀ (i j : Nat) (o o' : Oper) (d : Tmp), l[i]? = some o → l[j]? = some o' → i ≠ j → o.dst = some d → o'.dst ≠ some d := by
  induction l with
  | nil => intro i j o o' d h1; simp at h1
  | cons x l ih =>
    intro i j o o' d h1 h2 hij hd hd'
    have hn : (l.filterMap (·.dst)).Nodup := by
      rw [List.filterMap_cons] at h
      split at h
      · exact h
      · exact (List.nodup_cons.1 h).2
    have hx : ∀ (k : Nat) (y : Oper), x.dst = some d → l[k]? = some y → y.dst ≠ some d := by
      intro k y hxd hk hy
      rw [List.filterMap_cons, hxd] at h
      exact (List.nodup_cons.1 h).1 (List.mem_filterMap.2 ⟨y, List.mem_of_getElem? hk, hy⟩)
    match i, j, hij with
    | 0, 0, hij => exact hij rfl
    | 0, j + 1, _ =>
      simp only [List.getElem?_cons_zero, Option.some.injEq] at h1
      subst h1
      exact hx j o' hd (by simpa using h2) hd'
    | i + 1, 0, _ =>
      simp only [List.getElem?_cons_zero, Option.some.injEq] at h2
      subst h2
      exact hx i o hd' (by simpa using h1) hd
    | i + 1, j + 1, hij => exact ih hn i j o o' d (by simpa using h1) (by simpa using h2) (by omega) hd hd'
theorem SlotIs.put {a : Act} {o : Oper} {v : Value} {n : Nat} (hs : a.tmps.size = n) (hd : ∀ d, o.dst = some d → d < n) : SlotIs (a.put o.dst v) o v := by
  intro d h
  rw [h]
  show (a.tmps.setIfInBounds d v)[d]? = some v
  rw [Array.getElem?_setIfInBounds_self_of_lt (by rw [hs]; exact hd d h)]
theorem SlotIs.other {a : Act} {o o' : Oper} {v u : Value} (h : SlotIs a o' u) (hd : ∀ d, o.dst = some d → o'.dst ≠ some d) : SlotIs (a.put o.dst v) o' u := by
  intro d h'
  match ho : o.dst with
  | none => exact h d h'
  | some d0 =>
    show (a.tmps.setIfInBounds d0 v)[d]? = some u
    have : d0 ≠ d := fun e => hd d0 ho (e ▸ h')
    rw [Array.getElem?_setIfInBounds_ne this]
    exact h d h'
theorem SameBut.put {l : List Oper} {a0 a : Act} {o : Oper} {v : Value} (h : SameBut l a0 a) (ho : o ∈ l) : SameBut l a0 (a.put o.dst v) := by
  match hd : o.dst with
  | none => exact h
  | some d0 =>
    refine ⟨?_, h.defers, fun k hk => ?_⟩
    · show (a.tmps.setIfInBounds d0 v).size = _
      rw [Array.size_setIfInBounds]
      exact h.size
    · show (a.tmps.setIfInBounds d0 v)[k]? = _
      have : d0 ≠ k := fun e => hk (List.mem_filterMap.2 ⟨o, ho, by rw [hd, e]⟩)
      rw [Array.getElem?_setIfInBounds_ne this]
      exact h.rest k hk
section
variable {P : Program} {Q : Exit → Act → World → Prop} {a0 : Act} {l : List Oper} {Le : World → World → Prop} {C : World → Prop} {R : Nat → Value → World → Prop}
/-- what stands when the operations of listed have been run -/
structure FactInv (l : List Oper) (a0 : Act) (C : World → Prop) (R : Nat → Value → World → Prop) (L0 : Array Bool) (n : Nat) (listed : Array Bool) (a : Act) (w : World) : Prop where
  size : listed.size = l.length
  same : SameBut l a0 a
  cls : C w
  facts : ∀ i o, l[i]? = some o → listed.getD i false = true → ∃ v, SlotIs a o v ∧ R i v w
  tail : ∀ t, n ≤ t → listed.getD t false = L0.getD t false
  closed : ∀ j o, l[j]? = some o → listed.getD j false = true → ∀ e ∈ o.after, Region.binds .any e = true → listed.getD e.on false = true
/-- what an operation is to do -/
def FactStep (P : Program) (Q : Exit → Act → World → Prop) (l : List Oper) (a0 : Act) (Le : World → World → Prop) (C : World → Prop) (R : Nat → Value → World → Prop) (i : Nat) (o : Oper) : Prop :=
  ∀ a w, SameBut l a0 a → C w → (∀ e ∈ o.after, Region.binds .any e = true → ∀ oe, l[e.on]? = some oe → ∃ v, SlotIs a oe v ∧ R e.on v w) → o.wp P a w (fun a' w' => ∃ v, a' = a.put o.dst v ∧ Le w w' ∧ R i v w') Q
theorem listed_both {listed : Array Bool} {i n : Nat} (hs : listed.size = n) (hi : i < n) (b c : Bool) : listed.getD i b = listed.getD i c := by
  have : i < listed.size := by rw [hs]; exact hi
  simp [this]
theorem wpAny_seq : ∀ (ts : List Nat) (L : Array Bool) (a : Act) (w : World), seqReady l L ts = true → wpOps P l.toArray Q ts a w → wpAny P .any l.toArray Q ts.length L a w
  | [], L, a, w, hB, h => ⟨of_decide_eq_true hB, h⟩
  | t :: ts, L, a, w, hB, h => by
    simp only [seqReady, Bool.and_eq_true, decide_eq_true_eq] at hB
    refine ⟨fun h0 => (by rw [hB.1] at h0; cases h0), fun i hi => ?_⟩
    rw [hB.1] at hi
    have hit : i = t := by simpa using hi
    subst hit
    rw [wpOps_cons] at h
    exact wpOp_mono (fun a' w' h' => wpAny_seq ts _ a' w' hB.2 h') h
theorem wpAny_facts {L0 : Array Bool} {n t1 : Nat} {ts : List Nat} (hg : ∀ i o, i < n → l[i]? = some o → o.guard = none) (hd : (l.filterMap (·.dst)).Nodup) (hn : ∀ d ∈ l.filterMap (·.dst), d < a0.tmps.size)
    (he : ∀ i o, l[i]? = some o → ∀ e ∈ o.after, Region.binds .any e = true → e.on < i)
    (hnl : n ≤ l.length)
    (hsink : ∀ i, i < n → L0.getD i false = true ∨ ∃ j, i < j ∧ (j < n ∨ j = t1) ∧ waitsB l j i = true)
    (htail : ∀ t, t < l.length → t < n ∨ L0.getD t false = true ∨ t = t1 ∨ ∃ p, n ≤ p ∧ L0.getD p false = false ∧ waitsB l t p = true)
    (hseq : seqReady l (headsDone l L0 n) (t1 :: ts) = true)
    (hC : ∀ w w', Le w w' → C w → C w') (hR : ∀ i v w w', Le w w' → R i v w → R i v w')
    (hstep : ∀ i o, i < n → L0.getD i false = false → l[i]? = some o → FactStep P Q l a0 Le C R i o)
    (hend : ∀ a w, SameBut l a0 a → C w → (∀ i o, l[i]? = some o → i < n ∨ L0.getD i false = true → ∃ v, SlotIs a o v ∧ R i v w) → wpOps P l.toArray Q (t1 :: ts) a w) :
    ∀ (k : Nat) (listed : Array Bool) (a : Act) (w : World), (List.range n).countP (fun i => listed.getD i false) + k = n → (∀ i, L0.getD i false = true → listed.getD i false = true) → FactInv l a0 C R L0 n listed a w → wpAny P .any l.toArray Q (k + (t1 :: ts).length) listed a w := by
  intro k
  induction k with
  | zero =>
    intro listed a w hc hL hI
    have h1 : (List.range n).countP (fun i => listed.getD i false) = (List.range n).length := by rw [List.length_range]; omega
    rw [List.countP_eq_length] at h1
    have hall : ∀ i, i < n → listed.getD i false = true := fun i hi => h1 i (List.mem_range.2 hi)
    have hlist : listed = headsDone l L0 n := by
      refine Array.ext (by rw [hI.size]; simp [headsDone]) fun i hi1 hi2 => ?_
      have hget : listed.getD i false = listed[i] := by simp [hi1]
      have hofn : (headsDone l L0 n)[i] = (decide (i < n) || L0.getD i false) := by simp [headsDone]
      rw [hofn, ← hget]
      by_cases hin : i < n
      · rw [hall i hin]; simp [hin]
      · rw [hI.tail i (by omega)]; simp [hin]
    rw [Nat.zero_add, hlist]
    refine wpAny_seq _ _ _ _ hseq (hend a w hI.same hI.cls fun i o hio hlt => hI.facts i o hio ?_)
    rcases hlt with h | h
    · exact hall i h
    · exact hL i h
  | succ k ih =>
    intro listed a w hc hL hI
    have hun : ∃ i, i < n ∧ listed.getD i false = false := by
      refine Classical.byContradiction fun hno => ?_
      have : (List.range n).countP (fun i => listed.getD i false) = (List.range n).length := List.countP_eq_length.2 fun i hi => by
        cases h : listed.getD i false with
        | true => rfl
        | false => exact absurd ⟨i, List.mem_range.1 hi, h⟩ hno
      rw [List.length_range] at this
      omega
    have hne : Region.ready .any l.toArray listed ≠ [] := by
      intro hr
      have hlow : ∀ i, i < n → listed.getD i false = true := by
        intro i
        induction i using Nat.strongRecOn with
        | _ i ih =>
          intro hi
          cases hli : listed.getD i false with
          | true => rfl
          | false =>
            exfalso
            have hmem : i ∈ Region.ready .any l.toArray listed := by
              rw [mem_ready]
              refine ⟨by rw [listed_both hI.size (by omega) true false]; exact hli, l[i], by simp [show i < l.length by omega], fun e hem hb => ?_⟩
              have h1 := he i l[i] (by simp [show i < l.length by omega]) e hem hb
              exact ih e.on h1 (by omega)
            rw [hr] at hmem
            cases hmem
      obtain ⟨i, hi, hf⟩ := hun
      rw [hlow i hi] at hf
      cases hf
    -- no operation of the tail is ready while a head is left
    have hhead : ∀ t, t ∈ Region.ready .any l.toArray listed → t < n := by
      intro t ht
      obtain ⟨htl, o, ho, hdeps⟩ := mem_ready.1 ht
      have ho' : l[t]? = some o := by simpa using ho
      have htlen : t < l.length := (List.getElem?_eq_some_iff.1 ho').1
      have htf : listed.getD t false = false := by rw [listed_both hI.size htlen false true]; exact htl
      refine Classical.byContradiction fun htn => ?_
      rcases htail t htlen with h | h | h | ⟨p, hp1, hp2, hp3⟩
      · exact htn h
      · rw [hL t h] at htf; cases htf
      · subst h
        -- the greatest head that is left
        have key : ∀ d i, n - i = d → i < n → listed.getD i false = true := by
          intro d
          induction d using Nat.strongRecOn with
          | _ d ihd =>
            intro i hid hin
            cases hli : listed.getD i false with
            | true => rfl
            | false =>
              exfalso
              rcases hsink i hin with h1 | ⟨j, hij, hj, hwj⟩
              · rw [hL i h1] at hli; cases hli
              · obtain ⟨oj, hoj, e, hem, hb, hon⟩ := waits_spec hwj
                rcases hj with hjn | rfl
                · have hlj := ihd (n - j) (by omega) j rfl hjn
                  have := hI.closed j oj hoj hlj e hem hb
                  rw [hon, hli] at this
                  cases this
                · have : oj = o := by rw [ho'] at hoj; exact (Option.some.inj hoj).symm
                  subst this
                  have := hdeps e hem hb
                  rw [hon, hli] at this
                  cases this
        obtain ⟨i, hi, hf⟩ := hun
        rw [key (n - i) i rfl hi] at hf
        cases hf
      · obtain ⟨oj, hoj, e, hem, hb, hon⟩ := waits_spec hp3
        have : oj = o := by rw [ho'] at hoj; exact (Option.some.inj hoj).symm
        subst this
        have h3 := hdeps e hem hb
        rw [hon, hI.tail p hp1, hp2] at h3
        cases h3
    rw [show k + 1 + (t1 :: ts).length = (k + (t1 :: ts).length) + 1 by omega]
    refine ⟨fun h0 => absurd h0 hne, fun i hi => ?_⟩
    have hin := hhead i hi
    obtain ⟨hli, o, ho, hdeps⟩ := mem_ready.1 hi
    have ho' : l[i]? = some o := by simpa using ho
    have hil : i < l.length := by omega
    have hmem : o ∈ l := List.mem_of_getElem? ho'
    have hlf : listed.getD i false = false := by rw [listed_both hI.size hil false true]; exact hli
    have hL0 : L0.getD i false = false := by
      cases h : L0.getD i false with
      | false => rfl
      | true => rw [hL i h] at hlf; cases hlf
    have hs := hstep i o hin hL0 ho' a w hI.same hI.cls fun e hem hb oe hoe => hI.facts e.on oe hoe (hdeps e hem hb)
    unfold wpOp
    have hw : Region.wanted o (yielded l.toArray a.tmps) = true := by
      unfold Region.wanted
      rw [hg i o hin ho']
    simp only [ho, hw, if_true]
    refine .inl (Oper.wp_mono ?_ hs)
    rintro a' w' ⟨v, rfl, hle, hRi⟩
    have hset : (listed.setIfInBounds i true).getD i false = true := by
      have : i < listed.size := by rw [hI.size]; exact hil
      simp [this]
    refine ih _ _ _ ?_ (fun j hj => getD_set_true (hL j hj)) ⟨by rw [Array.size_setIfInBounds]; exact hI.size, hI.same.put hmem, hC _ _ hle hI.cls, fun j oj hoj hlj => ?_, fun t ht => ?_, fun j oj hoj hlj e hem hb => ?_⟩
    · have h1 := count_one (f := fun j => listed.getD j false) (g := fun j => (listed.setIfInBounds i true).getD j false) (i := i) hlf hset (fun j hj => getD_set_ne false (Ne.symm hj)) n hin
      omega
    · by_cases hij : j = i
      · subst hij
        have : oj = o := by rw [ho'] at hoj; exact (Option.some.inj hoj).symm
        subst this
        exact ⟨v, SlotIs.put hI.same.size (fun d h => hn d (List.mem_filterMap.2 ⟨oj, hmem, h⟩)), hRi⟩
      · rw [getD_set_ne false (Ne.symm hij)] at hlj
        obtain ⟨u, h1, h2⟩ := hI.facts j oj hoj hlj
        exact ⟨u, h1.other (fun d hod => nodup_dst hd i j o oj d ho' hoj (Ne.symm hij) hod), hR _ _ _ _ hle h2⟩
    · rw [getD_set_ne false (by omega)]
      exact hI.tail t ht
    · by_cases hij : j = i
      · subst hij
        have : oj = o := by rw [ho'] at hoj; exact (Option.some.inj hoj).symm
        subst this
        exact getD_set_true (hdeps e hem hb)
      · rw [getD_set_ne false (Ne.symm hij)] at hlj
        exact getD_set_true (hI.closed j oj hoj hlj e hem hb)
theorem tailB_parts {L0 : Array Bool} {n t1 : Nat} {ts : List Nat} (h : tailB l L0 n t1 ts = true) : L0.size = l.length ∧ n ≤ l.length ∧
    (∀ j o, l[j]? = some o → L0.getD j false = true → ∀ e ∈ o.after, Region.binds .any e = true → L0.getD e.on false = true) ∧
    (∀ i, i < n → L0.getD i false = true ∨ ∃ j, i < j ∧ (j < n ∨ j = t1) ∧ waitsB l j i = true) ∧
    (∀ t, t < l.length → t < n ∨ L0.getD t false = true ∨ t = t1 ∨ ∃ p, n ≤ p ∧ L0.getD p false = false ∧ waitsB l t p = true) ∧ seqReady l (headsDone l L0 n) (t1 :: ts) = true := by
  unfold tailB at h
  simp only [Bool.and_eq_true, List.all_eq_true, decide_eq_true_eq, List.mem_range, Bool.or_eq_true, List.any_eq_true, beq_iff_eq, Bool.not_eq_true'] at h
  obtain ⟨⟨⟨⟨⟨h1, h2⟩, h3⟩, h4⟩, h5⟩, h6⟩ := h
  refine ⟨h1, h2, fun j o ho hl e hem hb => ?_, fun i hi => ?_, fun t ht => ?_, h6⟩
  · have h7 := h3 j (List.getElem?_eq_some_iff.1 ho).1
    rcases h7 with h7 | h7
    · rw [hl] at h7; cases h7
    · rw [ho] at h7
      simp only [Array.all_eq_true_iff_forall_mem, Bool.or_eq_true, Bool.not_eq_true'] at h7
      rcases h7 e hem with h8 | h8
      · rw [hb] at h8; cases h8
      · exact h8
  · rcases h4 i hi with h7 | ⟨j, hj, ⟨h8, h9⟩, h10⟩
    · exact .inl h7
    · exact .inr ⟨j, h8, h9, h10⟩
  · rcases h5 t ht with ((h7 | h7) | h7) | ⟨p, hp, ⟨h8, h9⟩, h10⟩
    · exact .inl h7
    · exact .inr (.inl h7)
    · exact .inr (.inr (.inl h7))
    · exact .inr (.inr (.inr ⟨p, h8, h9, h10⟩))
theorem factB_parts {n : Nat} (h : factB l n = true) : (∀ o ∈ l, o.guard = none) ∧ (l.filterMap (·.dst)).Nodup ∧ (∀ d ∈ l.filterMap (·.dst), d < n) ∧ (∀ i o, l[i]? = some o → ∀ e ∈ o.after, Region.binds .any e = true → e.on < i) := by
  unfold factB at h
  simp only [Bool.and_eq_true, List.all_eq_true, decide_eq_true_eq, beq_iff_eq] at h
  obtain ⟨⟨⟨h1, h2⟩, h3⟩, h4⟩ := h
  refine ⟨h1, h2, h3, fun i o hio e hem hb => ?_⟩
  have h5 := h4 i (List.mem_range.2 (List.getElem?_eq_some_iff.1 hio).1)
  simp only [hio, Array.all_eq_true_iff_forall_mem, Bool.or_eq_true, Bool.not_eq_true', decide_eq_true_eq] at h5
  rcases h5 e hem with h6 | h6
  · rw [hb] at h6; cases h6
  · exact h6
/-- all operations but the last -/
theorem wp_region_facts {id : Nat} {w0 : World} (n t1 : Nat) (ts : List Nat) (hm : P.follows .mixedOrders = true) (hB : factB l a0.tmps.size = true) (hT : tailB l (Array.replicate l.length false) n t1 ts = true) (hlen : n + (t1 :: ts).length = l.length) (hC0 : C w0.drew)
    (hC : ∀ w w', Le w w' → C w → C w') (hR : ∀ i v w w', Le w w' → R i v w → R i v w')
    (hstep : ∀ i o, i < n → l[i]? = some o → FactStep P Q l a0 Le C R i o)
    (hend : ∀ a w, SameBut l a0 a → C w → (∀ i o, l[i]? = some o → i < n → ∃ v, SlotIs a o v ∧ R i v w) → wpOps P l.toArray Q (t1 :: ts) a w) : (Code.region id l.toArray true).wp P Q a0 w0 := by
  obtain ⟨h1, h2, h3, h4⟩ := factB_parts hB
  obtain ⟨k1, k2, k3, k4, k5, k6⟩ := tailB_parts hT
  have h := wpAny_facts (P := P) (Q := Q) (Le := Le) (C := C) (R := R) (fun i o _ hio => h1 o (List.mem_of_getElem? hio)) h2 h3 h4 k2 k4 k5 k6 hC hR (fun i o hi _ hio => hstep i o hi hio) (fun a w hs hc hf => hend a w hs hc fun i o hio hlt => hf i o hio (.inl hlt)) n (Array.replicate l.length false) a0 w0.drew (by
    have : (List.range n).countP (fun i => (Array.replicate l.length false).getD i false) = 0 := by
      rw [List.countP_eq_zero]
      intro i _
      rw [rep_false]
      exact Bool.false_ne_true
    omega) (fun _ h => h) ⟨by simp, ⟨rfl, rfl, fun _ _ => rfl⟩, hC0, fun i o _ hl => (by rw [rep_false] at hl; cases hl), fun _ _ => rfl, fun j o _ hl => (by rw [rep_false] at hl; cases hl)⟩
  rw [hlen] at h
  exact wp_region_any hm (by simpa using h)
theorem fact_step {i : Nat} {o : Oper} (h : ∀ a w, SameBut l a0 a → C w → (∀ e ∈ o.after, Region.binds .any e = true → ∀ oe, l[e.on]? = some oe → ∃ v, SlotIs a oe v ∧ R e.on v w) → ∀ K : Act → World → Prop, (∀ v w', Le w w' → R i v w' → K (a.put o.dst v) w') → o.wp P a w K Q) : FactStep P Q l a0 Le C R i o :=
  fun a w h1 h2 h3 => h a w h1 h2 h3 _ fun v _ k1 k2 => ⟨v, rfl, k1, k2⟩
end
/-- one goal for each operation -/
def StepsFrom (S : Nat → Oper → Prop) : Nat → List Oper → Prop
  | _, [] => True
  | k, o :: l => S k o ∧ StepsFrom S (k + 1) l
theorem steps_from {S : Nat → Oper → Prop} : ∀ (l : List Oper) (k : Nat), StepsFrom S k l → ∀ i o, l[i]? = some o → S (k + i) o
  | [], _, _, i, o, h => by simp at h
  | x :: l, k, hS, 0, o, h => by
    simp only [List.getElem?_cons_zero, Option.some.injEq] at h
    subst h
    exact hS.1
  | x :: l, k, hS, i + 1, o, h => by
    have := steps_from l (k + 1) hS.2 i o (by simpa using h)
    rwa [show k + 1 + i = k + (i + 1) by omega] at this
theorem steps_take {S : Nat → Oper → Prop} {l : List Oper} {n : Nat} (h : StepsFrom S 0 (l.take n)) : ∀ i o, i < n → l[i]? = some o → S i o := fun i o hi hio => by
  have := steps_from _ 0 h i o (by rw [List.getElem?_take_of_lt hi]; exact hio)
  rwa [Nat.zero_add] at this
theorem wpOps_more {P : Program} {Q : Exit → Act → World → Prop} {l : List Oper} {a : Act} {w : World} {t : Nat} {ts : List Nat} {o : Oper} (ho : l[t]? = some o) (hg : o.guard = none) (h : o.wp P a w (wpOps P l.toArray Q ts) Q) : wpOps P l.toArray Q (t :: ts) a w := by
  rw [wpOps_cons]
  unfold wpOp
  have ho' : l.toArray[t]? = some o := by simpa using ho
  have hw : Region.wanted o (yielded l.toArray a.tmps) = true := by
    unfold Region.wanted
    rw [hg]
  simp only [ho', hw, if_true]
  exact .inl h
end Go.Proofs.YtchkdidpnjakeaaGreatDoor
namespace Go.Proofs.YtchkdidpnjakeaaGreatDoor
open Go.RowKit Go.Lib
set_option linter.unusedVariables false
set_option maxRecDepth 100000

/-- a lot: so many of a good -/
structure Lt where
  g : ByteArray
  c : Int
/-- a box -/
structure Bx where
  m : ByteArray
  k : Int
  l : List Lt
/-- a deal -/
structure Dl where
  num : ByteArray
  sel : ByteArray
  buy : ByteArray
  car : ByteArray
  iss : ByteArray
  hou : ByteArray
  ins : ByteArray
  frm : ByteArray
  dst : ByteArray
  cur : ByteArray
  amt : Int
  box : List Bx
  trm : Int
  lat : Int
  exp : Int
  ten : Int
  dut : Int
def dlA (d : Dl) (A : Option Addr) (c : Nat) : Array Value := #[.string d.num, .string d.sel, .string d.buy, .string d.car, .string d.iss, .string d.hou, .string d.ins, .string d.frm, .string d.dst, .string d.cur, .int .i64 d.amt, .slice A d.box.length c, .int .i64 d.trm, .int .i64 d.lat, .int .i64 d.exp, .int .i64 d.ten, .int .i64 d.dut]
/-- the lots l stand from off on in block g -/
def LtAt (w : World) (g off : Nat) (l : List Lt) : Prop := ∀ i x, l[i]? = some x → w.cell? ⟨g, off + i * 2, none⟩ = some (.string x.g) ∧ w.cell? ⟨g, off + i * 2 + 1, none⟩ = some (.int .i64 x.c)
/-- a slice of lots, in a block below B -/
def Lts (w : World) (B : Nat) (A : Option Addr) (l : List Lt) : Prop := 0 < l.length → ∃ g off, A = some ⟨g, off, none⟩ ∧ g < B ∧ LtAt w g off l
/-- the three cells of a box, and its lots -/
structure B3 (w : World) (B g o : Nat) (b : Bx) (A : Option Addr) (c : Nat) : Prop where
  c0 : w.cell? ⟨g, o, none⟩ = some (.string b.m)
  c1 : w.cell? ⟨g, o + 1, none⟩ = some (.int .i64 b.k)
  c2 : w.cell? ⟨g, o + 2, none⟩ = some (.slice A b.l.length c)
  lots : Lts w B A b.l
  nil : A = none → c = 0
/-- a slice of boxes, all of it in blocks below B -/
def Bxs (w : World) (B : Nat) (A : Option Addr) (l : List Bx) : Prop := 0 < l.length → ∃ g off, A = some ⟨g, off, none⟩ ∧ g < B ∧ ∀ i b, l[i]? = some b → ∃ A' c', B3 w B g (off + i * 3) b A' c'
section
variable {w w' : World} {B B' : Nat} {A : Option Addr} {l : List Lt} {L : List Bx}
theorem LtAt.below {g off : Nat} (h : LtAt w g off l) (hb : Below B w w') (hg : g < B) : LtAt w' g off l := fun i x hx =>
  ⟨(hb.cell (p := ⟨g, off + i * 2, none⟩) hg).trans (h i x hx).1, (hb.cell (p := ⟨g, off + i * 2 + 1, none⟩) hg).trans (h i x hx).2⟩
theorem Lts.kept (h : Lts w B A l) (hb : Below B w w') : Lts w' B A l := fun h0 => by
  obtain ⟨g, off, e, hg, hc⟩ := h h0
  exact ⟨g, off, e, hg, hc.below hb hg⟩
theorem Lts.more (h : Lts w B A l) (hB : B ≤ B') : Lts w B' A l := fun h0 => by
  obtain ⟨g, off, e, hg, hc⟩ := h h0
  exact ⟨g, off, e, by omega, hc⟩
theorem B3.kept {g o : Nat} {b : Bx} {c : Nat} (h : B3 w B g o b A c) (hb : Below B w w') (hg : g < B) : B3 w' B g o b A c :=
  ⟨(hb.cell (p := ⟨g, o, none⟩) hg).trans h.c0, (hb.cell (p := ⟨g, o + 1, none⟩) hg).trans h.c1, (hb.cell (p := ⟨g, o + 2, none⟩) hg).trans h.c2, h.lots.kept hb, h.nil⟩
theorem Bxs.kept (h : Bxs w B A L) (hb : Below B w w') : Bxs w' B A L := fun h0 => by
  obtain ⟨g, off, e, hg, hc⟩ := h h0
  refine ⟨g, off, e, hg, fun i x hx => ?_⟩
  obtain ⟨A', c', h3⟩ := hc i x hx
  exact ⟨A', c', h3.kept hb hg⟩
theorem Bxs.more (h : Bxs w B A L) (hB : B ≤ B') : Bxs w B' A L := fun h0 => by
  obtain ⟨g, off, e, hg, hc⟩ := h h0
  refine ⟨g, off, e, by omega, fun i x hx => ?_⟩
  obtain ⟨A', c', h3⟩ := hc i x hx
  exact ⟨A', c', h3.c0, h3.c1, h3.c2, h3.lots.more hB, h3.nil⟩
end
/-- no text and no row of it is long -/
def LtOk (x : Lt) : Prop := x.g.size ≤ 1048576 ∧ -9223372036854775808 ≤ x.c ∧ x.c ≤ 9223372036854775807
def LtsOk (l : List Lt) : Prop := l.length ≤ 1048576 ∧ ∀ x ∈ l, LtOk x
/-- the lots of all boxes -/
def lotsOf (L : List Bx) : List Lt := L.flatMap (·.l)
structure BxsOk (L : List Bx) : Prop where
  few : L.length ≤ 1048576
  lots : LtsOk (lotsOf L)
  mark : ∀ b ∈ L, b.m.size ≤ 1048576
theorem lots_le (L : List Bx) (b : Bx) : b ∈ L → b.l.length ≤ (lotsOf L).length := by
  induction L with
  | nil => intro h; cases h
  | cons x L ih =>
    intro h
    unfold lotsOf at *
    rw [List.flatMap_cons, List.length_append]
    rcases List.mem_cons.1 h with rfl | h
    · omega
    · have := ih h; omega
theorem BxsOk.of_mem {L : List Bx} (h : BxsOk L) {b : Bx} (hb : b ∈ L) : LtsOk b.l := by
  have hsub : ∀ x ∈ b.l, x ∈ lotsOf L := fun x hx => List.mem_flatMap.2 ⟨b, hb, hx⟩
  have hlen : b.l.length ≤ (lotsOf L).length := lots_le L b hb
  exact ⟨Nat.le_trans hlen h.lots.1, fun x hx => h.lots.2 x (hsub x hx)⟩
end Go.Proofs.YtchkdidpnjakeaaGreatDoor
namespace Go.Proofs.YtchkdidpnjakeaaGreatDoor
open Go.RowKit Go.Maps Go.Lib
set_option linter.unusedVariables false
set_option maxRecDepth 100000

theorem wpOps_done {P : Program} {Q : Exit → Act → World → Prop} {ops : Array Oper} {a : Act} {w : World} (h : Q .normal a w) : wpOps P ops Q [] a w := h
end Go.Proofs.YtchkdidpnjakeaaGreatDoor
namespace Go.Proofs.YtchkdidpnjakeaaGreatDoor
open Go.RowKit Go.Maps Go.Lib
set_option linter.unusedVariables false
set_option maxRecDepth 100000

/-- texts with commas between -/
def joinT (S : List ByteArray) : ByteArray := ⟨(Lib.join (S.map (·.data.toList)) (⟨#[44]⟩ : ByteArray).data.toList).toArray⟩
def marksT (L : List Bx) : ByteArray := joinT (L.map (·.m))
end Go.Proofs.YtchkdidpnjakeaaGreatDoor
namespace Go.Proofs.YtchkdidpnjakeaaGreatDoor
open Go.RowKit Go.Maps Go.Lib
set_option linter.unusedVariables false
set_option maxRecDepth 100000

def zl : List Value := [.string ⟨#[]⟩, .int .i64 0]
section
variable {w w' : World} {base : Nat} {v : Value} {L : List Lt}
end
end Go.Proofs.YtchkdidpnjakeaaGreatDoor
namespace Go.Proofs.YtchkdidpnjakeaaGreatDoor
open Go.RowKit Go.Maps Go.Lib Go.Sort
set_option linter.unusedVariables false
set_option maxRecDepth 100000

def ltS (x y : ByteArray) : Bool := Op.bytesLess x.toList y.toList
theorem ltS_iff (x y : ByteArray) : ltS x y = true ↔ x.toList < y.toList := by
  unfold ltS
  rw [bytesLess_eq, decide_eq_true_iff]
instance ltInhabited : Inhabited Lt := ⟨⟨⟨#[]⟩, 0⟩⟩
end Go.Proofs.YtchkdidpnjakeaaGreatDoor
namespace Go.Proofs.YtchkdidpnjakeaaGreatDoor
open Go.RowKit Go.Lib
set_option linter.unusedVariables false
set_option maxRecDepth 100000

/-- the slice's elements are the numbers l, in a block below B -/
def It (w : World) (B : Nat) (A : Option Addr) (l : List Int) : Prop := 0 < l.length → ∃ g off, A = some ⟨g, off, none⟩ ∧ g < B ∧ ∀ j x, l[j]? = some x → w.cell? ⟨g, off + j, none⟩ = some (.int .i64 x)
theorem It.kept {w w' : World} {B : Nat} {A : Option Addr} {l : List Int} (h : It w B A l) (hb : Below B w w') : It w' B A l := fun hl => by
  obtain ⟨g, off, e, hg, hc⟩ := h hl
  exact ⟨g, off, e, hg, fun j x hx => (hb.cell (p := ⟨g, off + j, none⟩) hg).trans (hc j x hx)⟩
end Go.Proofs.YtchkdidpnjakeaaGreatDoor
namespace Go.Proofs.YtchkdidpnjakeaaGreatDoor.Led
open Go.RowKit Go.Lib
set_option linter.unusedVariables false

def goodC (c : UInt8) : Prop := (97 ≤ c.toNat ∧ c.toNat ≤ 122) ∨ (48 ≤ c.toNat ∧ c.toNat ≤ 57) ∨ c.toNat = 45 ∨ c.toNat = 58
instance (c : UInt8) : Decidable (goodC c) := by unfold goodC; infer_instance
structure GoodName (s : ByteArray) : Prop where
  pos : 1 ≤ s.size
  le : s.size ≤ 32
  all : ∀ k (h : k < s.size), goodC s[k]
structure GoodCur (s : ByteArray) : Prop where
  len : s.size = 3
  all : ∀ k (h : k < s.size), 65 ≤ s[k].toNat ∧ s[k].toNat ≤ 90

set_option maxHeartbeats 800000 in
theorem isName_good (s : ByteArray) (w : World) (hG : GoodName s) :
    Calls Tryz.prog 209 #[.string s] w fun e w' => e = .returned (.bool true) ∧ w = w' := by
  have h1 := hG.pos
  have h2 := hG.le
  have Ha := Lib.hid hG.all
  clear hG
  go_enter Tryz.func209, Tryz.ntmps209
  go_wp2
  go_loop [15] (fun i => ∃ k : Nat, k ≤ s.size ∧ i = .int .i64 k) (fun i => s.size - (RowKit.intOf i).toNat)
  case atStart => exact ⟨0, Nat.zero_le _, rfl⟩
  case round =>
    obtain ⟨k, hk, rfl⟩ := hrel
    by_cases hlt : k < s.size
    · have hc := Ha.out k hlt
      unfold goodC at hc
      rcases hc with h | h | h | h
      all_goals
        first
          | have e45 : ((s[k].toNat : Int) != 45) = true := by simp; omega
          | have e45 : ((s[k].toNat : Int) != 45) = false := by simp; omega
        first
          | have e58 : ((s[k].toNat : Int) != 58) = true := by simp; omega
          | have e58 : ((s[k].toNat : Int) != 58) = false := by simp; omega
        go_wp2
        go_round
        case rel => exact ⟨k + 1, by omega, by go_num⟩
        case measure => simp [RowKit.intOf]; omega
    · go_wp2
      go_ret
      exact ⟨rfl, rfl⟩

set_option maxHeartbeats 800000 in
theorem isCurrency_good (s : ByteArray) (w : World) (hG : GoodCur s) :
    Calls Tryz.prog 210 #[.string s] w fun e w' => e = .returned (.bool true) ∧ w = w' := by
  have h1 := hG.len
  have Ha := Lib.hid hG.all
  clear hG
  go_enter Tryz.func210, Tryz.ntmps210
  go_wp2
  go_loop [9] (fun i => ∃ k : Nat, k ≤ s.size ∧ i = .int .i64 k) (fun i => s.size - (RowKit.intOf i).toNat)
  case atStart => exact ⟨0, Nat.zero_le _, rfl⟩
  case round =>
    obtain ⟨k, hk, rfl⟩ := hrel
    by_cases hlt : k < s.size
    · have hc := Ha.out k hlt
      go_wp2
      go_round
      case rel => exact ⟨k + 1, by omega, by go_num⟩
      case measure => simp [RowKit.intOf]; omega
    · go_wp2
      go_ret
      exact ⟨rfl, rfl⟩
end Go.Proofs.YtchkdidpnjakeaaGreatDoor.Led
