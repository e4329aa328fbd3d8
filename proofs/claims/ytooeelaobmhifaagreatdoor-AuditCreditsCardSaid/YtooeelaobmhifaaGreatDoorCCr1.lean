/- audit.Credits' closure; audit.gather over it. -/
import Derived.Test.YtooeelaobmhifaaGreatDoorCKeys
import Derived.Test.YtooeelaobmhifaaGreatDoorCLine
import Derived.Test.YtooeelaobmhifaaGreatDoorMPlain
namespace Go.Proofs.YtooeelaobmhifaaGreatDoor
open Go.RowKit Go.Maps Go.Lib
set_option linter.unusedVariables false
set_option maxRecDepth 100000

noncomputable def bolE : ElC Bool := boolE Tryz.prog 4 Tryz.underlying4
/-- the counts, as a map holds them -/
def cntF (c : ByteArray → Nat) : ByteArray → Option Int := fun x => if c x = 0 then none else some (c x : Int)
def heldF (h : ByteArray → Bool) : ByteArray → Option Bool := fun x => if h x then some true else none
theorem cntF_get (c : ByteArray → Nat) (x : ByteArray) : (cntF c x).getD 0 = (c x : Int) := by
  unfold cntF
  split <;> simp_all
theorem heldF_get (h : ByteArray → Bool) (x : ByteArray) : (heldF h x).getD false = h x := by
  unfold heldF
  split <;> simp_all
theorem cntF_some (c : ByteArray → Nat) (x : ByteArray) : (cntF c x).isSome = true ↔ c x ≠ 0 := by
  unfold cntF
  split <;> simp_all
theorem Mp.kp {P : Program} {k : TypeId} {α β : Type} {C : KeyC P k α} {E : ElC β} {w w' : World} {b n : Nat} {G : α → Option β} {S : Nat → Prop} (h : Mp C E w b n G) (hk : Kp S w w') (hb : ¬ S b) : Mp C E w' b n G := by
  have hl := h.lt
  obtain ⟨D, ⟨es, clock, h2, h3⟩, hR⟩ := h
  exact ⟨D, ⟨es, clock, (hk.block b hl hb).trans h2, h3⟩, hR⟩
theorem Kp.cell {S : Nat → Prop} {w w' : World} (h : Kp S w w') {p : Addr} (hp : p.block < w.heap.size) (hS : ¬ S p.block) : w'.cell? p = w.cell? p := World.cell?_of_block (h.block _ hp hS)
/-- the lines so far: in the box po, and in a block of their own -/
structure Ln (w2 w : World) (po : Nat) (out : List ByteArray) : Prop where
  kp : Kp (fun k => k = po) w2 w
  row : ∃ A c, w.heap[po]? = some (.cells #[.slice A out.length c] 31 (0, 0)) ∧ w.ownsRow w2.heap.size 9 1 (.slice A out.length c) out.length (out.map Value.string)
  lt : po < w2.heap.size
theorem Ln.below {w2 w w' : World} {po : Nat} {out : List ByteArray} (h : Ln w2 w po out) (hb : Below w.heap.size w w') : Ln w2 w' po out := by
  obtain ⟨A, c, h1, h2⟩ := h.row
  exact ⟨h.kp.trans (Kp.of_below _ hb), ⟨A, c, (hb.block po (Nat.lt_of_lt_of_le h.lt h.kp.size)).trans h1, ownsRow_kp h2 (Kp.of_below (fun _ => False) hb) (fun _ _ e => e)⟩, h.lt⟩
theorem line_ln (w2 : World) (po bk c : Nat) (xs : List ByteArray) (J : ByteArray) (w : World) (out : List ByteArray) (hL : Ln w2 w po out) (hol : out.length ≤ 100000) (hcells : ∀ (j : Nat) x, xs[j]? = some x → w.cell? ⟨bk, j, none⟩ = some (.string x)) (hbk : bk < w.heap.size) (hN : xs.length ≤ 100) (hcap : xs.length ≤ c) (hJ : J = ⟨(Lib.join (xs.map (·.data.toList)) [32]).toArray⟩) (hlen : J.size ≤ 140737488355328) :
    Calls Tryz.prog 42 #[.slice (some ⟨bk, 0, none⟩) xs.length c, .pointer (some ⟨po, 0, none⟩)] w fun e w' => e = .returned (.tuple #[]) ∧ Ln w2 w' po (out ++ [J]) := by
  obtain ⟨A, cc, h1, h2⟩ := hL.row
  refine (line_any po bk 0 c xs J w w2.heap.size A cc out h2 hL.kp.size hol h1 (fun j x hx => by rw [Nat.zero_add]; exact hcells j x hx) hbk hN hcap hJ hlen).mono ?_
  rintro e w' ⟨he, g, cap, h3, h4, hk⟩
  refine ⟨he, ?_, ⟨some ⟨g, 0, none⟩, cap, by simpa using h3, by simpa using h4⟩, hL.lt⟩
  refine ⟨hk.os.trans hL.kp.os, hk.tape.trans hL.kp.tape, hk.output.trans hL.kp.output, Nat.le_trans hL.kp.size hk.size, fun k hk2 hn => ?_⟩
  refine (hk.block k (Nat.lt_of_lt_of_le hk2 hL.kp.size) ?_).trans (hL.kp.block k hk2 hn)
  rintro (e | e)
  · exact hn e
  · rcases h2.2 with ⟨h0, _⟩ | ⟨g', cap', cur, he', hb', _⟩
    · rw [h0] at e; simp [Value.ownBlock] at e
    · rw [he'] at e
      simp [Value.ownBlock] at e
      omega

/-- what the closure has at hand -/
structure Cc (w : World) (po bt bn bh mt mh nt nh : Nat) (name : ByteArray) (cnt : ByteArray → Nat) (held : ByteArray → Bool) : Prop where
  ct : w.cell? ⟨bt, 0, none⟩ = some (.map (some mt))
  cn : w.cell? ⟨bn, 0, none⟩ = some (.string name)
  ch : w.cell? ⟨bh, 0, none⟩ = some (.map (some mh))
  lt : bt < w.heap.size ∧ bn < w.heap.size ∧ bh < w.heap.size
  mt_ : Mp curC cntE w mt nt (cntF cnt)
  mh_ : Mp curC bolE w mh nh (heldF held)
  ne : bt ≠ po ∧ bn ≠ po ∧ bh ≠ po ∧ mt ≠ po ∧ mh ≠ po
theorem Cc.kp {w w' : World} {po bt bn bh mt mh nt nh : Nat} {name : ByteArray} {cnt : ByteArray → Nat} {held : ByteArray → Bool} (h : Cc w po bt bn bh mt mh nt nh name cnt held) (hk : Kp (fun k => k = po) w w') : Cc w' po bt bn bh mt mh nt nh name cnt held := by
  have hs := hk.size
  have hl := h.lt
  exact ⟨(hk.cell (p := ⟨bt, 0, none⟩) hl.1 h.ne.1).trans h.ct, (hk.cell (p := ⟨bn, 0, none⟩) hl.2.1 h.ne.2.1).trans h.cn, (hk.cell (p := ⟨bh, 0, none⟩) hl.2.2 h.ne.2.2.1).trans h.ch, ⟨by omega, by omega, by omega⟩, h.mt_.kp hk h.ne.2.2.2.1, h.mh_.kp hk h.ne.2.2.2.2, h.ne⟩
theorem zeroInt (W : World) : (zeroValue 3).run Tryz.prog W = .ok (.int .i64 0) W := by kernel_rfl
theorem zeroBool (W : World) : (zeroValue 4).run Tryz.prog W = .ok (.bool false) W := by kernel_rfl
theorem Cc.lookT {w : World} {po bt bn bh mt mh nt nh : Nat} {name : ByteArray} {cnt : ByteArray → Nat} {held : ByteArray → Bool} (h : Cc w po bt bn bh mt mh nt nh name cnt held) {x : ByteArray} (hx : curC.ok x) :
    (Instr.lookup 64 (.map (some mt)) (.string x) false).run Tryz.prog w = .ok (.int .i64 (cnt x : Nat)) w := by
  have := h.mt_.look (t := 64) (e := 3) (by rfl) (z := 0) (zeroInt w) (by rfl) hx
  rw [cntF_get] at this
  exact this
theorem Cc.lookH {w : World} {po bt bn bh mt mh nt nh : Nat} {name : ByteArray} {cnt : ByteArray → Nat} {held : ByteArray → Bool} (h : Cc w po bt bn bh mt mh nt nh name cnt held) {x : ByteArray} (hx : curC.ok x) :
    (Instr.lookup 65 (.map (some mh)) (.string x) false).run Tryz.prog w = .ok (.bool (held x)) w := by
  have := h.mh_.look (t := 65) (e := 4) (by rfl) (z := false) (zeroBool w) trivial hx
  rw [heldF_get] at this
  exact this
def auditL (name : ByteArray) (cnt : ByteArray → Nat) (held : ByteArray → Bool) (id : ByteArray) : List ByteArray := (if 1 < cnt id then [twiceT name id] else []) ++ (if held id then [bothT name id] else [])
theorem auditC_step (name : ByteArray) (keys : List ByteArray) (cnt : ByteArray → Nat) (held : ByteArray → Bool) (k : Nat) (h : k < keys.length) : auditC name (keys.take (k + 1)) cnt held = auditC name (keys.take k) cnt held ++ auditL name cnt held keys[k] := by
  rw [List.take_succ_eq_append_getElem h]
  simp only [auditC, auditL, List.flatMap_append, List.flatMap_cons, List.flatMap_nil, List.append_nil]
theorem auditC_len (name : ByteArray) (keys : List ByteArray) (cnt : ByteArray → Nat) (held : ByteArray → Bool) : (auditC name keys cnt held).length ≤ 2 * keys.length := by
  induction keys with
  | nil => simp [auditC]
  | cons x l ih =>
    have h1 : (auditL name cnt held x).length ≤ 2 := by
      unfold auditL
      rw [List.length_append]
      split <;> split <;> simp
    have h2 : auditC name (x :: l) cnt held = auditL name cnt held x ++ auditC name l cnt held := by simp only [auditC, auditL, List.flatMap_cons]
    rw [h2, List.length_append, List.length_cons]
    omega
theorem three_new (W : World) (a b c : ByteArray) (t : TypeId) : ∀ (j : Nat) (x : ByteArray), [a, b, c][j]? = some x → (W.alloc (.cells #[.string a, .string b, .string c] t)).cell? ⟨W.heap.size, j, none⟩ = some (.string x) := by
  intro j x h
  match j, h with
  | 0, h => simp at h; subst h; simp
  | 1, h => simp at h; subst h; simp
  | 2, h => simp at h; subst h; simp
  | j + 3, h => simp at h
theorem twiceT_size (name id : ByteArray) : (twiceT name id).size = name.size + id.size + 7 := by
  have h1 : (⟨#[32]⟩ : ByteArray).size = 1 := rfl
  have h2 : (⟨#[32, 116, 119, 105, 99, 101]⟩ : ByteArray).size = 6 := rfl
  simp only [twiceT, ByteArray.size_append, h1, h2]
  omega
theorem bothT_size (name id : ByteArray) : (bothT name id).size = name.size + id.size + 6 := by
  have h1 : (⟨#[32]⟩ : ByteArray).size = 1 := rfl
  have h2 : (⟨#[32, 98, 111, 116, 104]⟩ : ByteArray).size = 5 := rfl
  simp only [bothT, ByteArray.size_append, h1, h2]
  omega

theorem line_twice (w2 : World) (po : Nat) (name id : ByteArray) (w : World) (out : List ByteArray) (hL : Ln w2 w po out) (hol : out.length ≤ 100000) (hn : name.size ≤ 140737488351232) (hi : id.size ≤ 1000) :
    Calls Tryz.prog 42 #[.slice (some ⟨w.heap.size, 0, none⟩) 3 3, .pointer (some ⟨po, 0, none⟩)] (w.alloc (.cells #[.string name, .string id, .string ⟨#[116, 119, 105, 99, 101]⟩] 9)) fun e w' => e = .returned (.tuple #[]) ∧ Ln w2 w' po (out ++ [twiceT name id]) :=
  line_ln w2 po w.heap.size 3 [name, id, ⟨#[116, 119, 105, 99, 101]⟩] (twiceT name id) _ out (hL.below ((Below.refl _ w).alloc (Nat.le_refl _) _)) hol (three_new w _ _ _ _) (by simp) (by simp) (by simp) (join_twice name id).symm (by rw [twiceT_size]; omega)
theorem line_both (w2 : World) (po : Nat) (name id : ByteArray) (w : World) (out : List ByteArray) (hL : Ln w2 w po out) (hol : out.length ≤ 100000) (hn : name.size ≤ 140737488351232) (hi : id.size ≤ 1000) :
    Calls Tryz.prog 42 #[.slice (some ⟨w.heap.size, 0, none⟩) 3 3, .pointer (some ⟨po, 0, none⟩)] (w.alloc (.cells #[.string name, .string id, .string ⟨#[98, 111, 116, 104]⟩] 9)) fun e w' => e = .returned (.tuple #[]) ∧ Ln w2 w' po (out ++ [bothT name id]) :=
  line_ln w2 po w.heap.size 3 [name, id, ⟨#[98, 111, 116, 104]⟩] (bothT name id) _ out (hL.below ((Below.refl _ w).alloc (Nat.le_refl _) _)) hol (three_new w _ _ _ _) (by simp) (by simp) (by simp) (join_both name id).symm (by rw [bothT_size]; omega)

set_option maxHeartbeats 2000000 in
theorem credits1_any (w : World) (po bt bn bh mt mh nt nh : Nat) (name : ByteArray) (cnt : ByteArray → Nat) (held : ByteArray → Bool) (hC : Cc w po bt bn bh mt mh nt nh name cnt held) (hpo : w.heap[po]? = some (.cells #[.slice none 0 0] 31 (0, 0))) (hnt : nt ≤ 1000) (hn : name.size ≤ 140737488351232) (hids : ∀ x, cnt x ≠ 0 → x.size ≤ 1000) :
    Calls Tryz.prog 25 #[.func (.func 42) #[] #[.pointer (some ⟨po, 0, none⟩)], .pointer (some ⟨bt, 0, none⟩), .pointer (some ⟨bn, 0, none⟩), .pointer (some ⟨bh, 0, none⟩)] w fun e w' =>
      e = .returned (.tuple #[]) ∧ ∃ A c keys, Srt keys ∧ (∀ x, x ∈ keys ↔ cnt x ≠ 0) ∧ w'.cell? ⟨po, 0, none⟩ = some (.slice A (auditC name keys cnt held).length c) ∧ Rs w' w'.heap.size A (auditC name keys cnt held) ∧ Kp (fun k => k = po) w w' := by
  have hw1 : ∀ W : World, W = W := fun _ => rfl
  have ct := hC.ct
  have hpl : po < w.heap.size := (Array.getElem?_eq_some_iff.1 hpo).1
  have HC := Lib.hid hC
  have Hpo := Lib.hid hpo
  clear hpo hC hw1
  go_enter Tryz.func25, Tryz.ntmps25
  go_wp2_with (first
    | (go_at_call 27; refine (keys_fn _ _).mono ?_; rintro e w' ⟨rfl, rfl⟩)
    | (go_at_call 26; refine (sortedKeys_any w mt nt (cntF cnt) HC.out.mt_ (by omega)).mono ?_; rintro e w2 ⟨A9, c9, keys, rfl, hS, hok, hmem, hkl, hR9, hb2⟩)
    | go_in)
  have hb2' := hb2
  have Hk : Hid (∀ x, x ∈ keys ↔ cnt x ≠ 0) := Lib.hid (fun x => by
    constructor
    · intro hx
      exact (cntF_some cnt x).1 ((hmem x (hok x hx)).1 hx)
    · intro hx
      have h1 := hids x hx
      have h2 : curC.ok x := by show x.size ≤ maxLen; unfold maxLen; omega
      exact (hmem x h2).2 ((cntF_some cnt x).2 hx))
  have hpo2 : w2.heap[po]? = some (.cells #[.slice none 0 0] 31 (0, 0)) := (hb2.block po hpl).trans Hpo.out
  have HL0 : Hid (Ln w2 w2 po []) := Lib.hid ⟨⟨rfl, rfl, rfl, Nat.le_refl _, fun _ _ _ => rfl⟩, ⟨none, 0, hpo2, World.ownsRow_nil _ _ _ _⟩, (Array.getElem?_eq_some_iff.1 hpo2).1⟩
  have HC2 := Lib.hid (HC.out.kp (Kp.of_below _ hb2))
  have HB2 := Lib.hid hb2
  have HR9 := Lib.hid hR9
  have HS := Lib.hid hS
  have hno : ∀ o x, w2.cell? ⟨po, o, none⟩ ≠ some (.string x) := by
    intro o x h
    unfold World.cell? at h
    rw [hpo2] at h
    cases o with
    | zero => simp at h
    | succ o => simp at h
  have Hno := Lib.hid hno
  clear hb2 hb2' hR9 hS hmem hpo2 ct hno Hpo HC
  go_loopw [11] (fun i wr => ∃ k : Nat, i = .int .i64 (k : Int) ∧ k ≤ keys.length ∧ Hid (Ln w2 wr po (auditC name (keys.take k) cnt held))) (fun i _ => keys.length - (RowKit.intOf i).toNat)
  case atStart => exact ⟨0, rfl, Nat.zero_le _, HL0⟩
  case round =>
    obtain ⟨k, rfl, hk, HL⟩ := hrel
    by_cases hlt : k < keys.length
    · have hlt' : (k : Int) < (keys.length : Int) := by omega
      have hout : (auditC name (keys.take k) cnt held).length ≤ 10000 := by
        have := auditC_len name (keys.take k) cnt held
        rw [List.length_take] at this
        omega
      have hst := auditC_step name keys cnt held k hlt
      have hokk := hok _ (List.getElem_mem hlt)
      have hidk := hids _ ((Hk.out _).1 (List.getElem_mem hlt))
      obtain ⟨g9, o9, rfl, hg9, hc9⟩ := HR9.out (by omega)
      have hc9k := hc9 k _ (List.getElem?_eq_getElem hlt)
      have hgp : g9 ≠ po := fun e => Hno.out _ _ (e ▸ hc9k)
      have hcr : wr.cell? ⟨g9, o9 + k, none⟩ = some (.string keys[k]) := (HL.out.kp.cell (p := ⟨g9, o9 + k, none⟩) hg9 hgp).trans hc9k
      generalize keys[k] = id at *
      have HCr := Lib.hid (HC2.out.kp HL.out.kp)
      have ct := HCr.out.ct
      have cn := HCr.out.cn
      have ch := HCr.out.ch
      have lt_ := HCr.out.lookT hokk
      have lh_ := HCr.out.lookH hokk
      have Hst := Lib.hid hst
      clear hst hc9 hc9k
      generalize auditC name (keys.take k) cnt held = out at *
      by_cases h1 : 1 < cnt id
      · have h1' : (1 : Int) < (cnt id : Int) := by omega
        have HT := Lib.hid (line_twice w2 po name id wr out HL.out (by omega) hn hidk)
        cases h2 : held id with
        | true =>
          rw [h2] at lh_
          have Hfin : Hid (auditC name (keys.take (k + 1)) cnt held = out ++ [twiceT name id] ++ [bothT name id]) := Lib.hid (by rw [Hst.out]; simp [auditL, h1, h2])
          go_wp2_with (first
            | (go_at_call 42; refine HT.out.mono ?_; rintro e w4 ⟨rfl, hL4⟩; have HL4 := Lib.hid hL4; have HC4 := Lib.hid (HC2.out.kp hL4.kp); have cn4 := HC4.out.cn; have ch4 := HC4.out.ch; have lh4 := HC4.out.lookH hokk; rw [h2] at lh4; have HB := Lib.hid (line_both w2 po name id w4 (out ++ [twiceT name id]) hL4 (by simp; omega) hn hidk); clear hL4)
            | (go_at_call 42; refine HB.out.mono ?_; rintro e w5 ⟨rfl, hL5⟩; have HL5 := Lib.hid hL5; clear hL5)
            | go_in)
          go_roundw
          case rel => exact ⟨k + 1, by go_num, by omega, by rw [Hfin.out]; exact HL5⟩
          case measure => simp [RowKit.intOf]; omega
        | false =>
          rw [h2] at lh_
          have Hfin : Hid (auditC name (keys.take (k + 1)) cnt held = out ++ [twiceT name id]) := Lib.hid (by rw [Hst.out]; simp [auditL, h1, h2])
          go_wp2_with (first
            | (go_at_call 42; refine HT.out.mono ?_; rintro e w4 ⟨rfl, hL4⟩; have HL4 := Lib.hid hL4; have HC4 := Lib.hid (HC2.out.kp hL4.kp); have cn4 := HC4.out.cn; have ch4 := HC4.out.ch; have lh4 := HC4.out.lookH hokk; rw [h2] at lh4; clear hL4)
            | go_in)
          go_roundw
          case rel => exact ⟨k + 1, by go_num, by omega, by rw [Hfin.out]; exact HL4⟩
          case measure => simp [RowKit.intOf]; omega
      · have h1' : ¬ (1 : Int) < (cnt id : Int) := by omega
        cases h2 : held id with
        | true =>
          rw [h2] at lh_
          have HB := Lib.hid (line_both w2 po name id wr out HL.out (by omega) hn hidk)
          have Hfin : Hid (auditC name (keys.take (k + 1)) cnt held = out ++ [bothT name id]) := Lib.hid (by rw [Hst.out]; simp [auditL, h1, h2])
          go_wp2_with (first
            | (go_at_call 42; refine HB.out.mono ?_; rintro e w5 ⟨rfl, hL5⟩; have HL5 := Lib.hid hL5; clear hL5)
            | go_in)
          go_roundw
          case rel => exact ⟨k + 1, by go_num, by omega, by rw [Hfin.out]; exact HL5⟩
          case measure => simp [RowKit.intOf]; omega
        | false =>
          rw [h2] at lh_
          have Hfin : Hid (auditC name (keys.take (k + 1)) cnt held = out) := Lib.hid (by rw [Hst.out]; simp [auditL, h1, h2])
          go_wp2
          go_roundw
          case rel => exact ⟨k + 1, by go_num, by omega, by rw [Hfin.out]; exact HL⟩
          case measure => simp [RowKit.intOf]; omega
    · have hlt' : ¬ (k : Int) < (keys.length : Int) := by omega
      have hke : keys.take k = keys := List.take_of_length_le (by omega)
      rw [hke] at HL
      go_wp2
      go_end0
      obtain ⟨A, c, hp, hr⟩ := HL.out.row
      refine ⟨rfl, A, c, keys, HS.out, Hk.out, by simp [World.cell?, hp], ?_, (Kp.of_below _ HB2.out).trans (HL.out.kp)⟩
      rcases hr.2 with ⟨_, h0⟩ | ⟨g, cap, cur, he, _⟩
      · intro h; omega
      · injection he with e1 e2 e3
        subst e1 e3
        exact Rs.of_row hr

set_option maxHeartbeats 2000000 in
theorem gatherC_any (w : World) (bt bn bh mt mh nt nh : Nat) (name : ByteArray) (cnt : ByteArray → Nat) (held : ByteArray → Bool) (hC : Cc w w.heap.size bt bn bh mt mh nt nh name cnt held) (hnt : nt ≤ 1000) (hn : name.size ≤ 140737488351232) (hids : ∀ x, cnt x ≠ 0 → x.size ≤ 1000) :
    Calls Tryz.prog 24 #[.func (.func 25) #[] #[.pointer (some ⟨bt, 0, none⟩), .pointer (some ⟨bn, 0, none⟩), .pointer (some ⟨bh, 0, none⟩)]] w fun e w' =>
      ∃ A c keys, e = .returned (.slice A (auditC name keys cnt held).length c) ∧ Srt keys ∧ (∀ x, x ∈ keys ↔ cnt x ≠ 0) ∧ Rs w' w'.heap.size A (auditC name keys cnt held) ∧ Below w.heap.size w w' := by
  have hmf : ∀ (fn : Fn) (first cap : Array Value) (w : World), (Instr.makeFunc fn first cap).run Tryz.prog w = .ok (.func fn first cap) w := fun _ _ _ _ => rfl
  have hb1 := (Below.refl w.heap.size w).alloc (Nat.le_refl _) (.cells #[.slice none 0 0] 31)
  have HX1 := Lib.hid (hC.kp (Kp.of_below _ hb1))
  have HB1 := Lib.hid hb1
  have hc1 : (w.alloc (.cells #[.slice none 0 0] 31)).heap[w.heap.size]? = some (.cells #[.slice none 0 0] 31 (0, 0)) := heap_alloc_new w _
  have HR := Lib.hid (credits1_any _ w.heap.size bt bn bh mt mh nt nh name cnt held HX1.out hc1 hnt hn hids)
  clear hC hb1 hc1
  go_enter Tryz.func24, Tryz.ntmps24
  go_wp2_with (first
    | (go_at_call 25; refine HR.out.mono ?_; rintro e w2 ⟨rfl, A2, c2, keys, hS, hK, hc2, hR2, hk2⟩)
    | go_in)
  have HR2 := Lib.hid hR2
  have HK2 := Lib.hid hk2
  clear hR2 hk2 HR
  go_wp2
  go_ret
  refine ⟨A2, c2, keys, rfl, hS, hK, HR2.out, HB1.out.trans (HK2.out.below (by simp) (fun k e => by omega))⟩
end Go.Proofs.YtooeelaobmhifaaGreatDoor
