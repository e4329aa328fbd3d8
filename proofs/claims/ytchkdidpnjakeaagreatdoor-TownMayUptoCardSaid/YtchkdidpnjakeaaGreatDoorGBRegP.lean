/- A region that draws its order, by one fact for each operation; blocks that two operations make are two. bank.New: its first region; how far the parties have been read. bank.New: how far the deals have been read. -/
import Derived.Test.YtchkdidpnjakeaaGreatDoorGWReg
import Derived.Test.YtchkdidpnjakeaaGreatDoorGBOfs
import Derived.Test.YtchkdidpnjakeaaGreatDoorBBegin
namespace Go.Proofs.YtchkdidpnjakeaaGreatDoor
open Go.RowKit

section
variable {P : Program} {Q : Exit → Act → World → Prop} {a0 : Act} {l : List Oper} {Le : World → World → Prop} {C : World → Prop} {R : Nat → Value → World → Prop} {own : Nat → Value → Nat → Prop}
/-- what stands when the operations of listed have been run -/
structure FactInvP (own : Nat → Value → Nat → Prop) (l : List Oper) (a0 : Act) (C : World → Prop) (R : Nat → Value → World → Prop) (L0 : Array Bool) (n : Nat) (listed : Array Bool) (a : Act) (w : World) : Prop where
  size : listed.size = l.length
  same : SameBut l a0 a
  cls : C w
  facts : ∀ i o, l[i]? = some o → listed.getD i false = true → ∃ v, SlotIs a o v ∧ R i v w
  apart : ∀ i j oi oj di dj, l[i]? = some oi → l[j]? = some oj → listed.getD i false = true → listed.getD j false = true → i ≠ j → oi.dst = some di → oj.dst = some dj → ∀ vi vj, a.tmps[di]? = some vi → a.tmps[dj]? = some vj → ∀ q, own i vi q → ¬ own j vj q
  tail : ∀ t, n ≤ t → listed.getD t false = L0.getD t false
  closed : ∀ j o, l[j]? = some o → listed.getD j false = true → ∀ e ∈ o.after, Region.binds .any e = true → listed.getD e.on false = true
/-- what an operation is to do -/
def FactStepP (own : Nat → Value → Nat → Prop) (P : Program) (Q : Exit → Act → World → Prop) (l : List Oper) (a0 : Act) (Le : World → World → Prop) (C : World → Prop) (R : Nat → Value → World → Prop) (i : Nat) (o : Oper) : Prop :=
  ∀ a w, SameBut l a0 a → C w → (∀ e ∈ o.after, Region.binds .any e = true → ∀ oe, l[e.on]? = some oe → ∃ v, SlotIs a oe v ∧ R e.on v w) → o.wp P a w (fun a' w' => ∃ v, a' = a.put o.dst v ∧ Le w w' ∧ R i v w' ∧ ∀ q, own i v q → w.heap.size ≤ q) Q
theorem wpAny_factsP {L0 : Array Bool} {n t1 : Nat} {ts : List Nat} (hg : ∀ i o, i < n → l[i]? = some o → o.guard = none) (hd : (l.filterMap (·.dst)).Nodup) (hn : ∀ d ∈ l.filterMap (·.dst), d < a0.tmps.size)
    (he : ∀ i o, l[i]? = some o → ∀ e ∈ o.after, Region.binds .any e = true → e.on < i)
    (hnl : n ≤ l.length)
    (hsink : ∀ i, i < n → L0.getD i false = true ∨ ∃ j, i < j ∧ (j < n ∨ j = t1) ∧ waitsB l j i = true)
    (htail : ∀ t, t < l.length → t < n ∨ L0.getD t false = true ∨ t = t1 ∨ ∃ p, n ≤ p ∧ L0.getD p false = false ∧ waitsB l t p = true)
    (hseq : seqReady l (headsDone l L0 n) (t1 :: ts) = true)
    (hC : ∀ w w', Le w w' → C w → C w') (hR : ∀ i v w w', Le w w' → R i v w → R i v w') (hO : ∀ i v w, R i v w → ∀ q, own i v q → q < w.heap.size)
    (hstep : ∀ i o, i < n → L0.getD i false = false → l[i]? = some o → FactStepP own P Q l a0 Le C R i o)
    (hend : ∀ a w, SameBut l a0 a → C w → (∀ i o, l[i]? = some o → i < n ∨ L0.getD i false = true → ∃ v, SlotIs a o v ∧ R i v w) → (∀ i j oi oj di dj, l[i]? = some oi → l[j]? = some oj → (i < n ∨ L0.getD i false = true) → (j < n ∨ L0.getD j false = true) → i ≠ j → oi.dst = some di → oj.dst = some dj → ∀ vi vj, a.tmps[di]? = some vi → a.tmps[dj]? = some vj → ∀ q, own i vi q → ¬ own j vj q) → wpOps P l.toArray Q (t1 :: ts) a w) :
    ∀ (k : Nat) (listed : Array Bool) (a : Act) (w : World), (List.range n).countP (fun i => listed.getD i false) + k = n → (∀ i, L0.getD i false = true → listed.getD i false = true) → FactInvP own l a0 C R L0 n listed a w → wpAny P .any l.toArray Q (k + (t1 :: ts).length) listed a w := by
  intro k
  induction k with
  | zero =>
    intro listed a w hc hL hI
    have h1 : (List.range n).countP (fun i => listed.getD i false) = (List.range n).length := by rw [List.length_range]; omega
    rw [List.countP_eq_length] at h1
    have hall : ∀ i, i < n → listed.getD i false = true := fun i hi => h1 i (List.mem_range.2 hi)
    have hlist : listed = headsDone l L0 n := by
      refine Array.ext (by rw [hI.size]; simp [headsDone]) fun i hi1 hi2 => ?_
      have hget : listed.getD i false = listed[i] := by simp [hi1]
      have hofn : (headsDone l L0 n)[i] = (decide (i < n) || L0.getD i false) := by simp [headsDone]
      rw [hofn, ← hget]
      by_cases hin : i < n
      · rw [hall i hin]; simp [hin]
      · rw [hI.tail i (by omega)]; simp [hin]
    rw [Nat.zero_add, hlist]
    refine wpAny_seq _ _ _ _ hseq (hend a w hI.same hI.cls (fun i o hio hlt => hI.facts i o hio (hlt.elim (hall i) (hL i))) fun i j oi oj di dj g1 g2 g3 g4 g5 g6 g7 => hI.apart i j oi oj di dj g1 g2 (g3.elim (hall i) (hL i)) (g4.elim (hall j) (hL j)) g5 g6 g7)
  | succ k ih =>
    intro listed a w hc hL hI
    have hun : ∃ i, i < n ∧ listed.getD i false = false := by
      refine Classical.byContradiction fun hno => ?_
      have : (List.range n).countP (fun i => listed.getD i false) = (List.range n).length := List.countP_eq_length.2 fun i hi => by
        cases h : listed.getD i false with
        | true => rfl
        | false => exact absurd ⟨i, List.mem_range.1 hi, h⟩ hno
      rw [List.length_range] at this
      omega
    have hne : Region.ready .any l.toArray listed ≠ [] := by
      intro hr
      have hlow : ∀ i, i < n → listed.getD i false = true := by
        intro i
        induction i using Nat.strongRecOn with
        | _ i ih =>
          intro hi
          cases hli : listed.getD i false with
          | true => rfl
          | false =>
            exfalso
            have hmem : i ∈ Region.ready .any l.toArray listed := by
              rw [mem_ready]
              refine ⟨by rw [listed_both hI.size (by omega) true false]; exact hli, l[i], by simp [show i < l.length by omega], fun e hem hb => ?_⟩
              have h1 := he i l[i] (by simp [show i < l.length by omega]) e hem hb
              exact ih e.on h1 (by omega)
            rw [hr] at hmem
            cases hmem
      obtain ⟨i, hi, hf⟩ := hun
      rw [hlow i hi] at hf
      cases hf
    -- no operation of the tail is ready while a head is left
    have hhead : ∀ t, t ∈ Region.ready .any l.toArray listed → t < n := by
      intro t ht
      obtain ⟨htl, o, ho, hdeps⟩ := mem_ready.1 ht
      have ho' : l[t]? = some o := by simpa using ho
      have htlen : t < l.length := (List.getElem?_eq_some_iff.1 ho').1
      have htf : listed.getD t false = false := by rw [listed_both hI.size htlen false true]; exact htl
      refine Classical.byContradiction fun htn => ?_
      rcases htail t htlen with h | h | h | ⟨p, hp1, hp2, hp3⟩
      · exact htn h
      · rw [hL t h] at htf; cases htf
      · subst h
        -- the greatest head that is left
        have key : ∀ d i, n - i = d → i < n → listed.getD i false = true := by
          intro d
          induction d using Nat.strongRecOn with
          | _ d ihd =>
            intro i hid hin
            cases hli : listed.getD i false with
            | true => rfl
            | false =>
              exfalso
              rcases hsink i hin with h1 | ⟨j, hij, hj, hwj⟩
              · rw [hL i h1] at hli; cases hli
              · obtain ⟨oj, hoj, e, hem, hb, hon⟩ := waits_spec hwj
                rcases hj with hjn | rfl
                · have hlj := ihd (n - j) (by omega) j rfl hjn
                  have := hI.closed j oj hoj hlj e hem hb
                  rw [hon, hli] at this
                  cases this
                · have : oj = o := by rw [ho'] at hoj; exact (Option.some.inj hoj).symm
                  subst this
                  have := hdeps e hem hb
                  rw [hon, hli] at this
                  cases this
        obtain ⟨i, hi, hf⟩ := hun
        rw [key (n - i) i rfl hi] at hf
        cases hf
      · obtain ⟨oj, hoj, e, hem, hb, hon⟩ := waits_spec hp3
        have : oj = o := by rw [ho'] at hoj; exact (Option.some.inj hoj).symm
        subst this
        have h3 := hdeps e hem hb
        rw [hon, hI.tail p hp1, hp2] at h3
        cases h3
    rw [show k + 1 + (t1 :: ts).length = (k + (t1 :: ts).length) + 1 by omega]
    refine ⟨fun h0 => absurd h0 hne, fun i hi => ?_⟩
    have hin := hhead i hi
    obtain ⟨hli, o, ho, hdeps⟩ := mem_ready.1 hi
    have ho' : l[i]? = some o := by simpa using ho
    have hil : i < l.length := by omega
    have hmem : o ∈ l := List.mem_of_getElem? ho'
    have hlf : listed.getD i false = false := by rw [listed_both hI.size hil false true]; exact hli
    have hL0 : L0.getD i false = false := by
      cases h : L0.getD i false with
      | false => rfl
      | true => rw [hL i h] at hlf; cases hlf
    have hs := hstep i o hin hL0 ho' a w hI.same hI.cls fun e hem hb oe hoe => hI.facts e.on oe hoe (hdeps e hem hb)
    unfold wpOp
    have hw : Region.wanted o (yielded l.toArray a.tmps) = true := by
      unfold Region.wanted
      rw [hg i o hin ho']
    simp only [ho, hw, if_true]
    refine .inl (Oper.wp_mono ?_ hs)
    rintro a' w' ⟨v, rfl, hle, hRi, hfr⟩
    have hset : (listed.setIfInBounds i true).getD i false = true := by
      have : i < listed.size := by rw [hI.size]; exact hil
      simp [this]
    refine ih _ _ _ ?_ (fun j hj => getD_set_true (hL j hj)) ⟨by rw [Array.size_setIfInBounds]; exact hI.size, hI.same.put hmem, hC _ _ hle hI.cls, fun j oj hoj hlj => ?_, fun j k oj ok dj dk g1 g2 g3 g4 g5 g6 g7 vj vk g8 g9 q g10 g11 => ?_, fun t ht => ?_, fun j oj hoj hlj e hem hb => ?_⟩
    · have h1 := count_one (f := fun j => listed.getD j false) (g := fun j => (listed.setIfInBounds i true).getD j false) (i := i) hlf hset (fun j hj => getD_set_ne false (Ne.symm hj)) n hin
      omega
    · by_cases hij : j = i
      · subst hij
        have : oj = o := by rw [ho'] at hoj; exact (Option.some.inj hoj).symm
        subst this
        exact ⟨v, SlotIs.put hI.same.size (fun d h => hn d (List.mem_filterMap.2 ⟨oj, hmem, h⟩)), hRi⟩
      · rw [getD_set_ne false (Ne.symm hij)] at hlj
        obtain ⟨u, h1, h2⟩ := hI.facts j oj hoj hlj
        exact ⟨u, h1.other (fun d hod => nodup_dst hd i j o oj d ho' hoj (Ne.symm hij) hod), hR _ _ _ _ hle h2⟩
    · have hput : ∀ d u, o.dst = some d → (a.put o.dst v).tmps[d]? = some u → u = v := fun d u hd h => by
        have h1 := SlotIs.put (a := a) (o := o) (v := v) hI.same.size (fun d h => hn d (List.mem_filterMap.2 ⟨o, hmem, h⟩)) d hd
        rw [h] at h1
        exact Option.some.inj h1
      have hkeep : ∀ m om dm u, l[m]? = some om → m ≠ i → om.dst = some dm → (a.put o.dst v).tmps[dm]? = some u → a.tmps[dm]? = some u := fun m om dm u hom hmi hdm h => by
        match ho2 : o.dst with
        | none => rw [ho2] at h; exact h
        | some d0 =>
          rw [ho2] at h
          have h0 : (a.tmps.setIfInBounds d0 v)[dm]? = some u := h
          have hne : d0 ≠ dm := fun e => nodup_dst hd i m o om d0 ho' hom (Ne.symm hmi) ho2 (by rw [hdm, e])
          rwa [Array.getElem?_setIfInBounds_ne hne] at h0
      by_cases hji : j = i
      · subst hji
        have e1 : oj = o := by rw [ho'] at g1; exact (Option.some.inj g1).symm
        subst e1
        have e2 := hput dj vj g6 g8
        subst e2
        have hkj : k ≠ j := Ne.symm g5
        rw [getD_set_ne false (Ne.symm hkj)] at g4
        obtain ⟨u, hu1, hu2⟩ := hI.facts k ok g2 g4
        have h9 := hkeep k ok dk vk g2 hkj g7 g9
        have e3 : u = vk := by have := hu1 dk g7; rw [h9] at this; exact (Option.some.inj this).symm
        subst e3
        have := hO k u w hu2 q g11
        have := hfr q g10
        omega
      · by_cases hki : k = i
        · subst hki
          have e1 : ok = o := by rw [ho'] at g2; exact (Option.some.inj g2).symm
          subst e1
          have e2 := hput dk vk g7 g9
          subst e2
          rw [getD_set_ne false (Ne.symm hji)] at g3
          obtain ⟨u, hu1, hu2⟩ := hI.facts j oj g1 g3
          have h9 := hkeep j oj dj vj g1 hji g6 g8
          have e3 : u = vj := by have := hu1 dj g6; rw [h9] at this; exact (Option.some.inj this).symm
          subst e3
          have := hO j u w hu2 q g10
          have := hfr q g11
          omega
        · rw [getD_set_ne false (Ne.symm hji)] at g3
          rw [getD_set_ne false (Ne.symm hki)] at g4
          exact hI.apart j k oj ok dj dk g1 g2 g3 g4 g5 g6 g7 vj vk (hkeep j oj dj vj g1 hji g6 g8) (hkeep k ok dk vk g2 hki g7 g9) q g10 g11
    · rw [getD_set_ne false (by omega)]
      exact hI.tail t ht
    · by_cases hij : j = i
      · subst hij
        have : oj = o := by rw [ho'] at hoj; exact (Option.some.inj hoj).symm
        subst this
        exact getD_set_true (hdeps e hem hb)
      · rw [getD_set_ne false (Ne.symm hij)] at hlj
        exact getD_set_true (hI.closed j oj hoj hlj e hem hb)
theorem wp_region_factsP {id : Nat} {w0 : World} (n t1 : Nat) (ts : List Nat) (hm : P.follows .mixedOrders = true) (hB : factB l a0.tmps.size = true) (hT : tailB l (Array.replicate l.length false) n t1 ts = true) (hlen : n + (t1 :: ts).length = l.length) (hC0 : C w0.drew)
    (hC : ∀ w w', Le w w' → C w → C w') (hR : ∀ i v w w', Le w w' → R i v w → R i v w') (hO : ∀ i v w, R i v w → ∀ q, own i v q → q < w.heap.size)
    (hstep : ∀ i o, i < n → l[i]? = some o → FactStepP own P Q l a0 Le C R i o)
    (hend : ∀ a w, SameBut l a0 a → C w → (∀ i o, l[i]? = some o → i < n → ∃ v, SlotIs a o v ∧ R i v w) → (∀ i j oi oj di dj, l[i]? = some oi → l[j]? = some oj → i < n → j < n → i ≠ j → oi.dst = some di → oj.dst = some dj → ∀ vi vj, a.tmps[di]? = some vi → a.tmps[dj]? = some vj → ∀ q, own i vi q → ¬ own j vj q) → wpOps P l.toArray Q (t1 :: ts) a w) : (Code.region id l.toArray true).wp P Q a0 w0 := by
  obtain ⟨h1, h2, h3, h4⟩ := factB_parts hB
  obtain ⟨k1, k2, k3, k4, k5, k6⟩ := tailB_parts hT
  have h := wpAny_factsP (own := own) (P := P) (Q := Q) (Le := Le) (C := C) (R := R) (fun i o _ hio => h1 o (List.mem_of_getElem? hio)) h2 h3 h4 k2 k4 k5 k6 hC hR hO (fun i o hi _ hio => hstep i o hi hio) (fun a w hs hc hf hap => hend a w hs hc (fun i o hio hlt => hf i o hio (.inl hlt)) fun i j oi oj di dj g1 g2 g3 g4 => hap i j oi oj di dj g1 g2 (.inl g3) (.inl g4)) n (Array.replicate l.length false) a0 w0.drew (by
    have : (List.range n).countP (fun i => (Array.replicate l.length false).getD i false) = 0 := by
      rw [List.countP_eq_zero]
      intro i _
      rw [rep_false]
      exact Bool.false_ne_true
    omega) (fun _ h => h) ⟨by simp, ⟨rfl, rfl, fun _ _ => rfl⟩, hC0, fun i o _ hl => (by rw [rep_false] at hl; cases hl), fun i j _ _ _ _ _ _ hl => (by rw [rep_false] at hl; cases hl), fun _ _ => rfl, fun j o _ hl => (by rw [rep_false] at hl; cases hl)⟩
  rw [hlen] at h
  exact wp_region_any hm (by simpa using h)
theorem fact_stepP {i : Nat} {o : Oper} (h : ∀ a w, SameBut l a0 a → C w → (∀ e ∈ o.after, Region.binds .any e = true → ∀ oe, l[e.on]? = some oe → ∃ v, SlotIs a oe v ∧ R e.on v w) → ∀ K : Act → World → Prop, (∀ v w', Le w w' → R i v w' → (∀ q, own i v q → w.heap.size ≤ q) → K (a.put o.dst v) w') → o.wp P a w K Q) : FactStepP own P Q l a0 Le C R i o :=
  fun a w h1 h2 h3 => h a w h1 h2 h3 _ fun v _ k1 k2 k3 => ⟨v, rfl, k1, k2, k3⟩
end
end Go.Proofs.YtchkdidpnjakeaaGreatDoor
namespace Go.Proofs.YtchkdidpnjakeaaGreatDoor
open Go.RowKit Go.Maps Go.Lib
set_option linter.unusedVariables false
set_option maxRecDepth 100000

theorem SameBut.frame {l : List Oper} {a0 a : Act} (h : SameBut l a0 a) : a = ⟨(l.filterMap (·.dst)).foldl (fun t d => t.setIfInBounds d (a.tmps.getD d undef)) a0.tmps, a0.defers⟩ := by
  obtain ⟨tm, df⟩ := a
  have h3 : df = a0.defers := h.defers
  subst h3
  congr 1
  have key : ∀ (ds : List Tmp) (t : Array Value), t.size = tm.size → (∀ k, k ∉ ds → t[k]? = tm[k]?) → tm = ds.foldl (fun t d => t.setIfInBounds d (tm.getD d undef)) t := by
    intro ds
    induction ds with
    | nil =>
      intro t h1 h2
      refine Array.ext h1.symm fun i hi hi2 => ?_
      have hi3 : i < t.size := hi2
      have := h2 i (by simp)
      rw [Array.getElem?_eq_getElem hi3, Array.getElem?_eq_getElem hi] at this
      exact (Option.some.inj this).symm
    | cons d ds ih =>
      intro t h1 h2
      refine ih _ (by rw [Array.size_setIfInBounds]; exact h1) fun k hk => ?_
      by_cases e : d = k
      · subst e
        by_cases hd : d < tm.size
        · have hd2 : d < t.size := by rw [h1]; exact hd
          rw [Array.getElem?_setIfInBounds_self_of_lt hd2]
          simp [hd]
        · have hd2 : tm.size ≤ d := Nat.le_of_not_lt hd
          rw [Array.getElem?_eq_none (by rw [Array.size_setIfInBounds, h1]; exact hd2), Array.getElem?_eq_none hd2]
      · rw [Array.getElem?_setIfInBounds_ne e]
        exact h2 k (by simp [hk, Ne.symm e])
  exact key _ _ h.size.symm fun k hk => (h.rest k hk).symm
/-- what New's first region makes -/
def NewR (w wx : World) (V : Array Value) (nm : ByteArray) (u : Su) (v : Value) : Prop := ∃ bb z pm dm RA rc HA hc, v = .pointer (some ⟨bb, 0, none⟩) ∧ Bk wx (newK nm w.heap.size bb z pm dm RA rc u.rest HA hc u.hol) 0 0 0 ⟨fun _ => none, [], fun _ => Dst.new⟩ ∧ Mp curC pyE wx pm 0 (fun _ => none) ∧ Mp curC ptE wx dm 0 (fun _ => none) ∧ Below w.heap.size w wx ∧ wx.heap[w.heap.size]? = some (.cells V 29 (0, 0))
/-- what is new of what an operation of the first region gives -/
def nwOwn (i : Nat) (v : Value) (q : Nat) : Prop := (i = 11 ∧ ∃ z, v = .pointer (some ⟨z + 2, 0, none⟩) ∧ z ≤ q ∧ q ≤ z + 2) ∨ ((i = 12 ∨ i = 13) ∧ v = .map (some q))
theorem nw_no {i : Nat} (h1 : i ≠ 11) (h2 : i ≠ 12) (h3 : i ≠ 13) {v : Value} {n : Nat} : ∀ q, nwOwn i v q → n ≤ q := fun q h => by
  rcases h with ⟨h, _⟩ | ⟨h | h, _⟩
  · exact absurd h h1
  · exact absurd h h2
  · exact absurd h h3
theorem nw_led {v : Value} {z q : Nat} (hv : v = .pointer (some ⟨z + 2, 0, none⟩)) (h : nwOwn 11 v q) : z ≤ q := by
  rcases h with ⟨_, z', h, h1, h2⟩ | ⟨h | h, _⟩
  · rw [hv] at h
    injection h with h
    injection h with h
    injection h with h
    omega
  · cases h
  · cases h
theorem nw_map {v : Value} {z q i : Nat} (hv : v = .map (some z)) (hi : i ≠ 11) (h : nwOwn i v q) : z ≤ q := by
  rcases h with ⟨h, _⟩ | ⟨_, h⟩
  · exact absurd h hi
  · rw [hv] at h
    injection h with h
    injection h with h
    omega
def nwR (nm : ByteArray) (u : Su) (a : Sa) (b : Nat) : Nat → Value → World → Prop
  | 0, v, _ => v = .string nm
  | 1, v, _ => v = .pointer (some ⟨b, 3, none⟩)
  | 2, v, _ => v = .pointer (some ⟨b, 3, none⟩)
  | 3, v, _ => v = .slice a.RA u.rest.length a.rc
  | 4, v, w => ∃ A c, v = .slice A u.rest.length c ∧ ItT w A u.rest
  | 5, v, _ => v = .pointer (some ⟨b, 3, none⟩)
  | 6, v, _ => v = .pointer (some ⟨b, 4, none⟩)
  | 7, v, _ => v = .slice a.HA u.hol.length a.hc
  | 8, v, w => ∃ A c, v = .slice A u.hol.length c ∧ ItT w A u.hol
  | 9, v, w => ∃ A c A' c', v = .agg #[.slice A u.rest.length c, .slice A' u.hol.length c'] ∧ ItT w A u.rest ∧ ItT w A' u.hol
  | 10, v, _ => v = .string nm
  | 11, v, w => ∃ z, v = .pointer (some ⟨z + 2, 0, none⟩) ∧ b ≤ z ∧ Led.Lh w (z + 2) z (z + 1) 0 0 (fun _ => none) (.slice none 0 0) (fun _ => none)
  | 12, v, w => ∃ z, v = .map (some z) ∧ b ≤ z ∧ Mp curC pyE w z 0 (fun _ => none)
  | 13, v, w => ∃ z, v = .map (some z) ∧ b ≤ z ∧ Mp curC ptE w z 0 (fun _ => none)
  | _, _, _ => True
theorem nwR_kept {nm : ByteArray} {u : Su} {a : Sa} {b : Nat} (i : Nat) (v : Value) (w w' : World) (hb : Below w.heap.size w w') (h : nwR nm u a b i v w) : nwR nm u a b i v w' := by
  match i, h with
  | 0, h => exact h
  | 1, h => exact h
  | 2, h => exact h
  | 3, h => exact h
  | 4, ⟨A, c, h1, h2⟩ => exact ⟨A, c, h1, h2.keep (Im.of_below hb)⟩
  | 5, h => exact h
  | 6, h => exact h
  | 7, h => exact h
  | 8, ⟨A, c, h1, h2⟩ => exact ⟨A, c, h1, h2.keep (Im.of_below hb)⟩
  | 9, ⟨A, c, A', c', h1, h2, h3⟩ => exact ⟨A, c, A', c', h1, h2.keep (Im.of_below hb), h3.keep (Im.of_below hb)⟩
  | 10, h => exact h
  | 11, ⟨z, h1, h2, h3⟩ => exact ⟨z, h1, h2, h3.below hb h3.lg.plt h3.lg.blt h3.hlt⟩
  | 12, ⟨z, h1, h2, h3⟩ => exact ⟨z, h1, h2, h3.below hb h3.lt⟩
  | 13, ⟨z, h1, h2, h3⟩ => exact ⟨z, h1, h2, h3.below hb h3.lt⟩
  | n + 14, h => trivial
theorem nwR_own {nm : ByteArray} {u : Su} {a : Sa} {b : Nat} (i : Nat) (v : Value) (w : World) (h : nwR nm u a b i v w) : ∀ q, nwOwn i v q → q < w.heap.size := fun q hq => by
  rcases hq with ⟨rfl, z', h1, h2, h3⟩ | ⟨rfl | rfl, h1⟩
  · obtain ⟨z, hv, _, hL⟩ := h
    have := hL.lg.plt
    rw [hv] at h1
    injection h1 with h1
    injection h1 with h1
    injection h1 with h1
    omega
  · obtain ⟨z, hv, _, hL⟩ := h
    have := hL.lt
    rw [hv] at h1
    injection h1 with h1
    injection h1 with h1
    omega
  · obtain ⟨z, hv, _, hL⟩ := h
    have := hL.lt
    rw [hv] at h1
    injection h1 with h1
    injection h1 with h1
    omega
theorem firsts_snoc (l : List Py) (y : Py) : ∀ acc : List Py, firsts acc (l ++ [y]) = if (parF (firsts acc l) y.nm).isSome then firsts acc l else firsts acc l ++ [y] := by
  induction l with
  | nil => intro acc; rfl
  | cons x l ih => intro acc; exact ih _
theorem parF_firsts (l : List Py) : parF (firsts [] l) = parF l := by
  induction l using Led.List.reverseRecOn' with
  | nil => rfl
  | snoc l y ih =>
    funext s
    rw [firsts_snoc, ih, parF_snoc]
    by_cases h : (parF l y.nm).isSome = true
    · rw [if_pos h, ih]
      by_cases h2 : (parF l s).isSome = true
      · rw [if_pos h2]
      · rw [if_neg h2]
        have hn : ¬ y.nm = s := fun e => h2 (by rw [← e]; exact h)
        rw [if_neg hn]
        cases h3 : parF l s with
        | none => rfl
        | some z => rw [h3] at h2; exact absurd rfl h2
    · rw [if_neg h, parF_snoc, ih]
theorem firsts_take {l : List Py} {k : Nat} {y : Py} (h : l[k]? = some y) : firsts [] (l.take (k + 1)) = if (parF (l.take k) y.nm).isSome then firsts [] (l.take k) else firsts [] (l.take k) ++ [y] := by
  have e : l.take (k + 1) = l.take k ++ [y] := by rw [List.take_add_one, h]; rfl
  rw [e, firsts_snoc, parF_firsts]
theorem parF_take {l : List Py} {k : Nat} {y : Py} (h : l[k]? = some y) : parF (l.take (k + 1)) = if (parF (l.take k) y.nm).isSome then parF (l.take k) else putG (parF (l.take k)) y.nm y := by
  have e : l.take (k + 1) = l.take k ++ [y] := by rw [List.take_add_one, h]; rfl
  rw [e]
  funext s
  rw [parF_snoc]
  by_cases h : (parF (l.take k) y.nm).isSome = true
  · rw [if_pos h]
    by_cases h2 : (parF (l.take k) s).isSome = true
    · rw [if_pos h2]
    · rw [if_neg h2]
      have hn : ¬ y.nm = s := fun e => h2 (by rw [← e]; exact h)
      rw [if_neg hn]
      cases h3 : parF (l.take k) s with
      | none => rfl
      | some z => rw [h3] at h2; exact absurd rfl h2
  · rw [if_neg h]
    unfold putG
    by_cases e2 : s = y.nm
    · subst e2
      rw [if_pos rfl, if_neg h, if_pos rfl]
    · rw [if_neg e2, if_neg (Ne.symm e2)]
      cases h3 : parF (l.take k) s with
      | none => rfl
      | some z => rfl
/-- the parties, as far as they have been read -/
structure NpI (w W : World) (K : Kk) (u : Su) (k : Nat) (v : Value) (wr : World) : Prop where
  kq : Kq K.pm W wr
  bel : Below w.heap.size w wr
  mp : ∃ np, np ≤ k ∧ Mp curC pyE wr K.pm np (parF (u.par.take k))
  po : Po wr W.heap.size v (firsts [] (u.par.take k))
section
variable {w W wr : World} {K : Kk} {u : Su} {k : Nat} {v : Value} {y : Py}
theorem firsts_len (l : List Py) : (firsts [] l).length ≤ l.length := by
  induction l using Led.List.reverseRecOn' with
  | nil => exact Nat.le_refl _
  | snoc l y ih =>
    rw [firsts_snoc]
    split
    · rw [List.length_append]; omega
    · rw [List.length_append, List.length_append]; simp; exact ih
theorem NpI.same (h : NpI w W K u k v wr) (hy : u.par[k]? = some y) (hs : (parF (u.par.take k) y.nm).isSome = true) {X : World} (hX : Below wr.heap.size wr X) : NpI w W K u (k + 1) v X := by
  obtain ⟨np, h1, h2⟩ := h.mp
  refine ⟨h.kq.trans (Kq.of_below hX), h.bel.trans (hX.mono h.bel.size), ⟨np, by omega, ?_⟩, ?_⟩
  · rw [parF_take hy, if_pos hs]; exact h2.below hX h2.lt
  · rw [firsts_take hy, if_pos hs]; exact h.po.below hX
/-- a party that is new -/
theorem NpI.more (h : NpI w W K u k v wr) (hk : k ≤ 1000) (hpm : w.heap.size ≤ K.pm ∧ K.pm < W.heap.size) (hy : u.par[k]? = some y) (hs : (parF (u.par.take k) y.nm).isSome = false) (hyz : y.nm.size ≤ maxLen) {X : World} (hX : Below wr.heap.size wr X) :
    ∃ X1, (Instr.mapUpdate 66 (.map (some K.pm)) (.string y.nm) (.agg #[.string y.nm, .string y.bk, .int .i64 y.kd])).run Tryz.prog X = .ok () X1 ∧ X1.heap.size = X.heap.size ∧ (∀ q, q < X.heap.size → q ≠ K.pm → X1.heap[q]? = X.heap[q]?) ∧
      ∃ v' X2, (Builtin.append_ #[22, 22] 22 #[v, .slice (some ⟨X1.heap.size, 0, none⟩) 1 1]).run Tryz.prog (X1.alloc (.cells #[.string y.nm, .string y.bk, .int .i64 y.kd] 38)) = .ok v' X2 ∧ NpI w W K u (k + 1) v' X2 := by
  obtain ⟨np, h1, h2⟩ := h.mp
  have hWz := h.kq.size
  have hXz := hX.size
  obtain ⟨X1, r1, m1, t1⟩ := (h2.below hX h2.lt).store Tryz.underlying66 (by unfold maxLen; omega) (x := y.nm) (show curC.ok y.nm from hyz) (v := y) trivial
  have hg1 := t1.grown
  have hz1 : X1.heap.size = X.heap.size := by
    obtain ⟨es, cl, es', cl', _, rfl⟩ := t1
    simp [ChangeMaps.setBlock]
  have hb1 : ∀ q, q < X.heap.size → q ≠ K.pm → X1.heap[q]? = X.heap[q]? := fun q hq hn => hg1.block q hq (fun e => by injection e with e; exact hn e)
  have hvlo : ∀ q, v.ownBlock = some q → W.heap.size ≤ q := fun q hq => (h.po.lt hq).1
  have hP1 : Po X1 W.heap.size v (firsts [] (u.par.take k)) := (h.po.below hX).keep fun q hq => hb1 q ((h.po.below hX).lt hq).2 (by have := hvlo q hq; omega)
  have hfl := firsts_len (u.par.take k)
  have htl : (u.par.take k).length ≤ k := by simp; omega
  obtain ⟨v', X2, r2, hP2, hg2, hown⟩ := hP1.more 22 y (by omega) (by omega)
  refine ⟨X1, r1, hz1, hb1, v', X2, r2, ?_⟩
  have hg2z := hg2.size
  have ha : (X1.alloc (.cells #[.string y.nm, .string y.bk, .int .i64 y.kd] 38)).heap.size = X1.heap.size + 1 := by simp
  have hold : ∀ q, q < X1.heap.size → v.ownBlock ≠ some q → X2.heap[q]? = X1.heap[q]? := fun q hq hn => (hg2.block q (by omega) (fun e => hn e.symm)).trans (by first | exact heap_alloc_old X1 _ hq | exact heap_alloc_old X1 _ _ hq)
  have hkq : Kq K.pm W X2 := by
    refine ⟨hg2.os.trans (hg1.os.trans (hX.os.trans h.kq.os)), hg2.tape.trans (hg1.tape.trans (hX.tape.trans h.kq.tape)), hg2.output.trans (hg1.output.trans (hX.output.trans h.kq.output)), by omega, fun q hq hn => ?_⟩
    rw [hold q (by omega) (fun e => by have := hvlo q e; omega), hb1 q (by omega) hn, hX.block q (by omega), h.kq.block q hq hn]
  refine ⟨hkq, ?_, ⟨np + 1, by omega, ?_⟩, ?_⟩
  · refine ⟨hg2.os.trans (hg1.os.trans (hX.os.trans h.bel.os)), hg2.tape.trans (hg1.tape.trans (hX.tape.trans h.bel.tape)), hg2.output.trans (hg1.output.trans (hX.output.trans h.bel.output)), by have := h.bel.size; omega, fun q hq => ?_⟩
    have := h.bel.size
    rw [hold q (by omega) (fun e => by have := hvlo q e; omega), hb1 q (by omega) (by omega), hX.block q (by omega), h.bel.block q hq]
  · rw [parF_take hy, if_neg (by rw [hs]; exact Bool.false_ne_true)]
    exact m1.of_block (hold K.pm (by omega) (fun e => by have := hvlo _ e; omega))
  · rw [firsts_take hy, if_neg (by rw [hs]; exact Bool.false_ne_true)]
    exact hP2
end
end Go.Proofs.YtchkdidpnjakeaaGreatDoor
namespace Go.Proofs.YtchkdidpnjakeaaGreatDoor
open Go.RowKit Go.Maps Go.Lib
set_option linter.unusedVariables false
set_option maxRecDepth 100000

theorem dlF_take {nm : ByteArray} {l : List Dl} {k : Nat} {d : Dl} (h : l[k]? = some d) : dlF nm (l.take (k + 1)) = if (dlF nm (l.take k) d.num).isSome ∨ ¬ d.iss = nm then dlF nm (l.take k) else putG (dlF nm (l.take k)) d.num d := by
  have e : l.take (k + 1) = l.take k ++ [d] := by rw [List.take_add_one, h]; rfl
  rw [e]
  funext s
  rw [dlF_snoc]
  by_cases hc : (dlF nm (l.take k) d.num).isSome = true ∨ ¬ d.iss = nm
  · rw [if_pos hc]
    by_cases h2 : (dlF nm (l.take k) s).isSome = true
    · rw [if_pos h2]
    · rw [if_neg h2]
      have hn : ¬ (d.num = s ∧ d.iss = nm) := fun ⟨e1, e2⟩ => by
        rcases hc with hc | hc
        · exact h2 (by rw [← e1]; exact hc)
        · exact hc e2
      rw [if_neg hn]
      cases h3 : dlF nm (l.take k) s with
      | none => rfl
      | some z => rw [h3] at h2; exact absurd rfl h2
  · rw [if_neg hc]
    have hc1 : ¬ (dlF nm (l.take k) d.num).isSome = true := fun h => hc (.inl h)
    have hc2 : d.iss = nm := Classical.byContradiction fun h => hc (.inr h)
    unfold putG
    by_cases e2 : s = d.num
    · subst e2
      rw [if_pos rfl, if_neg hc1, if_pos ⟨rfl, hc2⟩]
    · have hn : ¬ (d.num = s ∧ d.iss = nm) := fun h => e2 h.1.symm
      rw [if_neg e2, if_neg hn]
      cases h3 : dlF nm (l.take k) s with
      | none => rfl
      | some z => rfl
/-- a bank with these deals -/
def ndK (K : Kk) (dl : ByteArray → Option Dl) (F : ByteArray → Option Nat) : Kk := { K with dl := dl, blk := F }
def SbNew : Sb := ⟨fun _ => none, [], fun _ => Dst.new⟩
/-- the deals, as far as they have been read -/
structure NwD (w W : World) (K : Kk) (nm : ByteArray) (u : Su) (k : Nat) (F : ByteArray → Option Nat) (nd : Nat) (wr : World) : Prop where
  bk : Bk wr (ndK K (dlF nm (u.dl.take k)) F) 0 0 0 SbNew
  mp : Mp curC ptE wr K.dm nd (fun s => (F s).map some)
  nd : nd ≤ k
  kq : Kq K.dm W wr
  bel : Below w.heap.size w wr
def NwI (w W : World) (K : Kk) (nm : ByteArray) (u : Su) (k : Nat) (wr : World) : Prop := ∃ F nd, NwD w W K nm u k F nd wr
section
variable {w W wr : World} {K : Kk} {nm : ByteArray} {u : Su} {k nd : Nat} {F : ByteArray → Option Nat} {d : Dl}
theorem NwD.some_ (h : NwD w W K nm u k F nd wr) (s : ByteArray) : (dlF nm (u.dl.take k) s).isSome = (F s).isSome := by
  cases hF : F s with
  | none =>
    have := h.bk.dls s hF
    have e : dlF nm (u.dl.take k) s = none := this
    rw [e]
    rfl
  | some q =>
    obtain ⟨d, A, c, PA, pc, FA, fc, h1, _⟩ := h.bk.deal s q hF
    have e : dlF nm (u.dl.take k) s = some d := h1
    rw [e]
    rfl
theorem NwD.same (h : NwD w W K nm u k F nd wr) (hd : u.dl[k]? = some d) (hs : (F d.num).isSome = true ∨ ¬ d.iss = nm) {X : World} (hX : Below wr.heap.size wr X) : NwI w W K nm u (k + 1) X := by
  refine ⟨F, nd, ⟨?_, h.mp.below hX h.mp.lt, by have := h.nd; omega, h.kq.trans (Kq.of_below hX), h.bel.trans (hX.mono h.bel.size)⟩⟩
  rw [dlF_take hd, if_pos (by rw [h.some_]; exact hs)]
  exact h.bk.below hX
theorem NwD.more (h : NwD w W K nm u k F nd wr) (hk : k ≤ 900) (hdm : w.heap.size ≤ K.dm) (hd : u.dl[k]? = some d) (hs : F d.num = none) (hi : d.iss = nm) (hz : d.num.size ≤ maxLen) {X : World} (hX : Below wr.heap.size wr X) {q : Nat} (hq : wr.heap.size ≤ q) {A : Option Addr} {c : Nat} (hD : DealAt X q d Dst.new A c none 0 none 0) :
    ∃ X1, (Instr.mapUpdate 218 (.map (some K.dm)) (.string d.num) (.pointer (some ⟨q, 0, none⟩))).run Tryz.prog X = .ok () X1 ∧ Hid (NwI w W K nm u (k + 1) X1) := by
  have hMX := h.mp.below hX h.mp.lt
  obtain ⟨es, cl, hmq⟩ := hMX.map?
  obtain ⟨X1, r1, m1, t1⟩ := hMX.store Tryz.underlying218 (by have := h.nd; unfold maxLen; omega) (x := d.num) (show curC.ok d.num from hz) (v := some q) trivial
  have hg := t1.grown
  have hkX : Kq K.dm X X1 := ⟨hg.os, hg.tape, hg.output, hg.size, fun j hj hn => hg.block j hj (fun e => by injection e with e; exact hn e)⟩
  have him := hkX.imM hmq
  have hkw : Kq K.dm wr X1 := (Kq.of_below hX).trans hkX
  have hfun : (fun s => (putG F d.num q s).map some) = putG (fun s => (F s).map some) d.num (some q) := by
    funext s
    unfold putG
    split <;> rfl
  have hD1 : DealAt X1 q d Dst.new A c none 0 none 0 := ⟨(hkX.block q hD.lt (fun e => by have := hD.cell; rw [e, hmq] at this; cases this)).trans hD.cell, hD.box.keep him, hD.pp.keep him, hD.ft.keep him⟩
  have hb := Bk.addD (K := ndK K (dlF nm (u.dl.take k)) F) (S := SbNew) h.bk hkw (nd := nd + 1) hq hD1 hs (by show Mp curC ptE X1 K.dm (nd + 1) (fun s => (putG F d.num q s).map some); rw [hfun]; exact m1) (by have := h.nd; omega)
  refine ⟨X1, r1, Lib.hid ⟨putG F d.num q, nd + 1, ⟨?_, by rw [hfun]; exact m1, by have := h.nd; omega, h.kq.trans hkw, ?_⟩⟩⟩
  · rw [dlF_take hd, if_neg (by rw [h.some_, hs]; rintro (h | h); exact Bool.false_ne_true h; exact h hi)]
    exact hb
  · have h1 := h.bel.size
    have h2 := hX.size
    exact ⟨hkw.os.trans h.bel.os, hkw.tape.trans h.bel.tape, hkw.output.trans h.bel.output, by have := hkw.size; omega, fun j hj => (hkw.block j (by omega) (by omega)).trans (h.bel.block j hj)⟩
end
theorem Po.pyt {w : World} {base c : Nat} {A : Option Addr} {L : List Py} (h : Po w base (.slice A L.length c) L) : PyT w A L := fun h0 => by
  rcases h.2 with ⟨h1, h2⟩ | ⟨g, cap, cur, h1, h2, h3, h4⟩
  · omega
  · injection h1 with h1 _ h1c
    subst h1 h1c
    refine ⟨g, 0, rfl, ⟨_, _, _, h3, by decide⟩, fun i x hx => ?_⟩
    have hi := (List.getElem?_eq_some_iff.1 hx).1
    have k : ∀ j, j < 3 → w.cell? ⟨g, 0 + i * 3 + j, none⟩ = (encPy x)[j]? := fun j hj => by
      rw [← pcs_at L i x hx j hj, Nat.zero_add]
      exact World.ownsRow.cellAt h _ (by omega)
    exact ⟨k 0 (by omega), k 1 (by omega), k 2 (by omega)⟩
theorem firsts_mem {l : List Py} {y : Py} (h : y ∈ firsts [] l) : y ∈ l := by
  induction l using Led.List.reverseRecOn' with
  | nil => exact h
  | snoc l z ih =>
    rw [firsts_snoc] at h
    split at h
    · exact List.mem_append_left _ (ih h)
    · rcases List.mem_append.1 h with h | h
      · exact List.mem_append_left _ (ih h)
      · exact List.mem_append_right _ h
/-- a bank that has begun -/
def NewP (nm : ByteArray) (u : Su) (w : World) (e : Ending) (w' : World) : Prop := ∃ K cs, e = .returned (.pointer (some ⟨K.bb, 0, none⟩)) ∧ K.nm = nm ∧ K.base = w.heap.size ∧ K.P = parF u.par ∧ K.dl = dlF nm u.dl ∧ K.rest = u.rest ∧ K.hol = u.hol ∧ KOk K ∧ Led.Srt cs ∧ ((∀ c ∈ cs, c.size ≤ maxLen) ∧ ∀ c, c.size ≤ maxLen → (c ∈ cs ↔ CurOf u c)) ∧ cs.length ≤ 26 ∧ Bk w' K 2000 0 20 ⟨beginG K (firsts [] u.par) cs u.fd, [], fun _ => Dst.new⟩ ∧ Mp curC ptE w' K.dm 6 (fun s => (K.blk s).map some) ∧ Below w.heap.size w w'
theorem ndK_ok {K : Kk} {nm : ByteArray} {u : Su} {F : ByteArray → Option Nat} (hu : SuOk u) (h1 : K.nm = nm) (hnm : nm.size ≤ 1048576) (h2 : K.P = parF u.par) (h3 : K.rest = u.rest) (h4 : K.hol = u.hol) : KOk (ndK K (dlF nm u.dl) F) := by
  refine ⟨by show K.nm.size ≤ _; rw [h1]; exact hnm, fun s y hy => ?_, fun s d hd => ?_, by show K.rest.length ≤ _; rw [h3]; have := hu.rest; omega, by show K.hol.length ≤ _; rw [h4]; have := hu.hol; omega⟩
  · have hy2 : parF u.par s = some y := by rw [← h2]; exact hy
    have := hu.py y (List.mem_of_find?_eq_some hy2)
    exact ⟨this.2.1, this.1⟩
  · exact hu.dls d (List.mem_of_find?_eq_some hd)
end Go.Proofs.YtchkdidpnjakeaaGreatDoor
