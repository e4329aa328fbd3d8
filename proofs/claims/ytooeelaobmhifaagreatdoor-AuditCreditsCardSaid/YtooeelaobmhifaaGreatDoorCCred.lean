/- audit.Credits. -/
import Derived.Test.YtooeelaobmhifaaGreatDoorCCr1
import Derived.Test.YtooeelaobmhifaaGreatDoorCHolds2
import Derived.Test.YtooeelaobmhifaaGreatDoorMHold
namespace Go.Proofs.YtooeelaobmhifaaGreatDoor
open Go.RowKit Go.Maps Go.Lib
set_option linter.unusedVariables false
set_option maxRecDepth 100000

/-- how often a credit was taken, as audit counts it -/
def cntT (txt : List ByteArray) (x : ByteArray) : Nat := txt.countP (fun t => isCr t && decide (idOf t = x))
theorem cntT_step (l : List ByteArray) (k : Nat) (h : k < l.length) : cntT (l.take (k + 1)) = fun x => cntT (l.take k) x + if isCr l[k] && decide (idOf l[k] = x) then 1 else 0 := by
  funext x
  rw [List.take_succ_eq_append_getElem h]
  unfold cntT
  rw [List.countP_append, List.countP_cons, List.countP_nil, Nat.zero_add]
theorem cntT_no (l : List ByteArray) (k : Nat) (h : k < l.length) (hc : isCr l[k] = false) : cntT (l.take (k + 1)) = cntT (l.take k) := by
  rw [cntT_step l k h]
  funext x
  simp [hc]
theorem cntF_put (l : List ByteArray) (k : Nat) (h : k < l.length) (hc : isCr l[k] = true) : putG (cntF (cntT (l.take k))) (idOf l[k]) ((cntT (l.take k) (idOf l[k]) : Int) + 1) = cntF (cntT (l.take (k + 1))) := by
  rw [cntT_step l k h]
  funext x
  unfold putG cntF
  by_cases e : x = idOf l[k]
  · subst e
    simp [hc]
  · have e' : ¬ idOf l[k] = x := fun h => e h.symm
    simp [hc, e, e']
theorem cntT_le (l : List ByteArray) (x : ByteArray) : cntT l x ≤ l.length := List.countP_le_length
def heldIn (hs : List Hd) (x : ByteArray) : Bool := hs.any (fun h => decide (h.id = x))
theorem heldF_put (hs : List Hd) (k : Nat) (h : k < hs.length) : putG (heldF (heldIn (hs.take k))) hs[k].id true = heldF (heldIn (hs.take (k + 1))) := by
  rw [List.take_succ_eq_append_getElem h]
  funext x
  unfold putG heldF heldIn
  rw [List.any_append]
  by_cases e : x = hs[k].id
  · subst e; simp
  · have e' : ¬ hs[k].id = x := fun h => e h.symm
    simp [e, e']
theorem cut_no (t : ByteArray) (W : World) (h : Lib.hasPrefix t.data.toList [116, 97, 107, 101, 32] = false) : Calls Tryz.prog 22 #[.string t, .string ⟨#[116, 97, 107, 101, 32]⟩] W fun e w' => (∃ r, e = .returned (.tuple #[.string r, .bool false])) ∧ w' = W := by
  refine (Tryz.strings_CutPrefix t ⟨#[116, 97, 107, 101, 32]⟩ W).mono ?_
  rintro e w' ⟨rfl, rfl⟩
  rw [show (⟨#[116, 97, 107, 101, 32]⟩ : ByteArray).data.toList = [116, 97, 107, 101, 32] from rfl, h]
  exact ⟨⟨_, rfl⟩, rfl⟩
theorem cut_yes (t : ByteArray) (W : World) (h : Lib.hasPrefix t.data.toList [116, 97, 107, 101, 32] = true) : Calls Tryz.prog 22 #[.string t, .string ⟨#[116, 97, 107, 101, 32]⟩] W fun e w' => e = .returned (.tuple #[.string (idOf t), .bool true]) ∧ w' = W := by
  refine (Tryz.strings_CutPrefix t ⟨#[116, 97, 107, 101, 32]⟩ W).mono ?_
  rintro e w' ⟨rfl, rfl⟩
  refine ⟨?_, rfl⟩
  rw [show (⟨#[116, 97, 107, 101, 32]⟩ : ByteArray).data.toList = [116, 97, 107, 101, 32] from rfl, h, idOf_is]
  unfold Lib.trimPrefix
  rw [h]
  rfl
theorem has_cr (t : ByteArray) (W : World) (b : Bool) (h : Lib.hasPrefix (t.data.toList.drop 5) [99, 114, 101, 100, 105, 116, 58] = b) : Calls Tryz.prog 23 #[.string (idOf t), .string ⟨#[99, 114, 101, 100, 105, 116, 58]⟩] W fun e w' => e = .returned (.bool b) ∧ w' = W := by
  refine (Tryz.strings_HasPrefix (idOf t) ⟨#[99, 114, 101, 100, 105, 116, 58]⟩ W).mono ?_
  rintro e w' ⟨rfl, rfl⟩
  refine ⟨?_, rfl⟩
  rw [← h, idOf_is]
theorem Mp.ne_cell {P : Program} {k : TypeId} {α β : Type} {C : KeyC P k α} {E : ElC β} {w : World} {b n : Nat} {G : α → Option β} (h : Mp C E w b n G) {p : Addr} {v : Value} (hp : w.cell? p = some v) : p.block ≠ b := by
  obtain ⟨es, cl, hm⟩ := h.map?
  intro e
  unfold World.cell? at hp
  rw [e, hm] at hp
  simp at hp

/-- the two maps and the three boxes, since w: N is where they begin -/
structure Cw (w wr : World) (N : Nat) (name : ByteArray) (nt nh : Nat) (cnt : ByteArray → Nat) (held : ByteArray → Bool) : Prop where
  bel : Below N w wr
  cn : wr.cell? ⟨N, 0, none⟩ = some (.string name)
  ct : wr.cell? ⟨N + 1 + 1 + 1, 0, none⟩ = some (.map (some (N + 1)))
  ch : wr.cell? ⟨N + 1 + 1 + 1 + 1, 0, none⟩ = some (.map (some (N + 1 + 1)))
  sz : N + 5 ≤ wr.heap.size
  mt_ : Mp curC cntE wr (N + 1) nt (cntF cnt)
  mh_ : Mp curC bolE wr (N + 1 + 1) nh (heldF held)
section
variable {w wr wr' : World} {N : Nat} {name : ByteArray} {nt nh : Nat} {cnt cnt' : ByteArray → Nat} {held held' : ByteArray → Bool}
theorem Cw.below (h : Cw w wr N name nt nh cnt held) (hb : Below wr.heap.size wr wr') : Cw w wr' N name nt nh cnt held := by
  have hs := h.sz
  have hs2 := hb.size
  exact ⟨h.bel.trans (hb.mono (by omega)), (hb.cell (p := ⟨N, 0, none⟩) (by show N < _; omega)).trans h.cn, (hb.cell (p := ⟨N + 1 + 1 + 1, 0, none⟩) (by show N + 3 < _; omega)).trans h.ct, (hb.cell (p := ⟨N + 1 + 1 + 1 + 1, 0, none⟩) (by show N + 4 < _; omega)).trans h.ch, by omega, h.mt_.below hb (by omega), h.mh_.below hb (by omega)⟩
theorem Cw.alloc (h : Cw w wr N name nt nh cnt held) (o : Obj) : Cw w (wr.alloc o) N name nt nh cnt held := h.below ((Below.refl _ _).alloc (Nat.le_refl _) o)
theorem Cw.putT (h : Cw w wr N name nt nh cnt held) (hM : Mp curC cntE wr' (N + 1) (nt + 1) (cntF cnt')) (ht : wr.mapTurned wr' (N + 1)) : Cw w wr' N name (nt + 1) nh cnt' held ∧ Kp (fun k => k = N + 1) wr wr' := by
  have hg := ht.grown
  have hs := h.sz
  have hs2 := hg.size
  have hk : Kp (fun k => k = N + 1) wr wr' := (Kp.of_grown hg).mono (fun k _ e => by injection e)
  refine ⟨⟨h.bel.grown hg (by omega) (fun k e => by injection e with e; omega), (hk.cell (p := ⟨N, 0, none⟩) (by show N < _; omega) (by show ¬ N = _; omega)).trans h.cn, (hk.cell (p := ⟨N + 1 + 1 + 1, 0, none⟩) (by show N + 3 < _; omega) (by show ¬ N + 3 = _; omega)).trans h.ct, (hk.cell (p := ⟨N + 1 + 1 + 1 + 1, 0, none⟩) (by show N + 4 < _; omega) (by show ¬ N + 4 = _; omega)).trans h.ch, by omega, hM, h.mh_.kp hk (by show ¬ N + 2 = _; omega)⟩, hk⟩
theorem Cw.putH (h : Cw w wr N name nt nh cnt held) (hM : Mp curC bolE wr' (N + 1 + 1) (nh + 1) (heldF held')) (ht : wr.mapTurned wr' (N + 1 + 1)) : Cw w wr' N name nt (nh + 1) cnt held' ∧ Kp (fun k => k = N + 1 + 1) wr wr' := by
  have hg := ht.grown
  have hs := h.sz
  have hs2 := hg.size
  have hk : Kp (fun k => k = N + 1 + 1) wr wr' := (Kp.of_grown hg).mono (fun k _ e => by injection e)
  refine ⟨⟨h.bel.grown hg (by omega) (fun k e => by injection e with e; omega), (hk.cell (p := ⟨N, 0, none⟩) (by show N < _; omega) (by show ¬ N = _; omega)).trans h.cn, (hk.cell (p := ⟨N + 1 + 1 + 1, 0, none⟩) (by show N + 3 < _; omega) (by show ¬ N + 3 = _; omega)).trans h.ct, (hk.cell (p := ⟨N + 1 + 1 + 1 + 1, 0, none⟩) (by show N + 4 < _; omega) (by show ¬ N + 4 = _; omega)).trans h.ch, by omega, h.mt_.kp hk (by show ¬ N + 1 = _; omega), hM⟩, hk⟩
theorem Cw.more (h : Cw w wr N name nt nh cnt held) {nt' : Nat} (hm : nt ≤ nt') : Cw w wr N name nt' nh cnt held := ⟨h.bel, h.cn, h.ct, h.ch, h.sz, h.mt_.mono hm, h.mh_⟩
theorem Cw.cc (h : Cw w wr N name nt nh cnt held) : Cc wr wr.heap.size (N + 1 + 1 + 1) N (N + 1 + 1 + 1 + 1) (N + 1) (N + 1 + 1) nt nh name cnt held := by
  have hs := h.sz
  exact ⟨h.ct, h.cn, h.ch, ⟨by omega, by omega, by omega⟩, h.mt_, h.mh_, by omega, by omega, by omega, by omega, by omega⟩
end
abbrev startW (w : World) (name : ByteArray) : World := ((((w.alloc (.cells #[.string name] 9)).alloc (.map #[] 0)).alloc (.map #[] 0)).alloc (.cells #[.map (some (w.heap.size + 1))] 64)).alloc (.cells #[.map (some (w.heap.size + 1 + 1))] 65)
theorem Cw.start (w : World) (name : ByteArray) : Cw w (startW w name) w.heap.size name 0 0 (cntT []) (fun _ => false) := by
  have e1 : cntF (cntT []) = fun _ => none := by funext x; simp [cntF, cntT]
  have e2 : heldF (fun _ => false) = fun _ => none := by funext x; simp [heldF]
  have s1 : (w.alloc (.cells #[.string name] 9)).heap.size = w.heap.size + 1 := by simp
  have s2 : ((w.alloc (.cells #[.string name] 9)).alloc (.map #[] 0)).heap.size = w.heap.size + 2 := by simp
  have s3 : (((w.alloc (.cells #[.string name] 9)).alloc (.map #[] 0)).alloc (.map #[] 0)).heap.size = w.heap.size + 3 := by simp
  have s4 : ((((w.alloc (.cells #[.string name] 9)).alloc (.map #[] 0)).alloc (.map #[] 0)).alloc (.cells #[.map (some (w.heap.size + 1))] 64)).heap.size = w.heap.size + 4 := by simp
  have m1 := (((Mp.made (C := curC) (E := cntE) (w.alloc (.cells #[.string name] 9))).alloc (.map #[] 0)).alloc (.cells #[.map (some (w.heap.size + 1))] 64)).alloc (.cells #[.map (some (w.heap.size + 1 + 1))] 65)
  have m2 := ((Mp.made (C := curC) (E := bolE) ((w.alloc (.cells #[.string name] 9)).alloc (.map #[] 0))).alloc (.cells #[.map (some (w.heap.size + 1))] 64)).alloc (.cells #[.map (some (w.heap.size + 1 + 1))] 65)
  rw [s1] at m1
  rw [s2] at m2
  refine ⟨?_, ?_, ?_, ?_, by simp, by rw [e1]; exact m1, by rw [e2]; exact m2⟩
  · exact (((((Below.refl _ w).alloc (Nat.le_refl _) _).alloc (by rw [s1]; omega) _).alloc (by rw [s2]; omega) _).alloc (by rw [s3]; omega) _).alloc (by rw [s4]; omega) _
  · exact Lib.cell?_alloc_some _ (Lib.cell?_alloc_some _ (Lib.cell?_alloc_some _ (Lib.cell?_alloc_some _ (Boxed.new w _ _).cell)))
  · have := (Boxed.new (((w.alloc (.cells #[.string name] 9)).alloc (.map #[] 0)).alloc (.map #[] 0)) 64 (.map (some (w.heap.size + 1)))).cell
    rw [s3] at this
    exact Lib.cell?_alloc_some _ this
  · have := (Boxed.new ((((w.alloc (.cells #[.string name] 9)).alloc (.map #[] 0)).alloc (.map #[] 0)).alloc (.cells #[.map (some (w.heap.size + 1))] 64)) 65 (.map (some (w.heap.size + 1 + 1)))).cell
    rw [s4] at this
    exact this

theorem vals_map (f : ByteArray → Option Int) : ∀ (ks : List ByteArray) (xs : List Hd), ks.map (holdsF f) = xs.map some → xs.map (fun h => h.id) = ks
  | [], [], _ => rfl
  | [], x :: xs, h => by simp at h
  | k :: ks, [], h => by simp at h
  | k :: ks, x :: xs, h => by
    rw [List.map_cons, List.map_cons] at h
    injection h with h1 h2
    rw [List.map_cons, vals_map f ks xs h2]
    congr 1
    unfold holdsF at h1
    cases hf : f k with
    | none => rw [hf] at h1; simp at h1
    | some a =>
      rw [hf] at h1
      simp at h1
      rw [← h1]
theorem vals_ids {f : ByteArray → Option Int} {xs : List Hd} (hV : ValsOf (holdsF f) xs) {ids : List ByteArray} (hf : ∀ i, (f i).isSome = true → i ∈ ids) (his : ∀ i ∈ ids, i.size ≤ 1000) : (xs.map (fun h => h.id)).Nodup ∧ ∀ x, (∃ h ∈ xs, h.id = x) ↔ (f x).isSome = true := by
  obtain ⟨ks, h1, h2, h3, h4⟩ := hV
  have e := vals_map f ks xs h4
  refine ⟨by rw [e]; exact h1, fun x => ?_⟩
  have e2 : (∃ h ∈ xs, h.id = x) ↔ x ∈ ks := by
    rw [← e, List.mem_map]
  have e3 : ((holdsF f) x).isSome = (f x).isSome := by simp [holdsF]
  rw [e2]
  constructor
  · intro hx
    rw [← e3]
    exact (h3 x (h2 x hx)).1 hx
  · intro hx
    have := his x (hf x hx)
    refine (h3 x ?_).2 (by rw [e3]; exact hx)
    show x.size ≤ maxLen
    unfold maxLen
    omega
theorem wf64 {a : Int} (h1 : -9223372036854775808 ≤ a) (h2 : a ≤ 9223372036854775807) : (Lit.int .i64 a).wf = true := by
  simp only [Lit.wf, Bool.and_eq_true, decide_eq_true_eq]
  exact ⟨h1, h2⟩
theorem Cw.lookT {w wr : World} {N : Nat} {name : ByteArray} {nt nh : Nat} {cnt : ByteArray → Nat} {held : ByteArray → Bool} (h : Cw w wr N name nt nh cnt held) {x : ByteArray} (hx : curC.ok x) :
    (Instr.lookup 64 (.map (some (N + 1))) (.string x) false).run Tryz.prog wr = .ok (.int .i64 (cnt x : Nat)) wr := h.cc.lookT hx
set_option maxHeartbeats 4000000 in
theorem credits_any (name : ByteArray) (w : World) (base p k0 : Nat) (f : ByteArray → Option Int) (txt : List ByteArray) (ids : List ByteArray) (hCs : Cs w base p f txt k0) (hk0 : k0 ≤ 100) (hf : ∀ i, (f i).isSome = true → i ∈ ids) (hil : ids.length ≤ 12) (his : ∀ i ∈ ids, i.size ≤ 1000) (ht : ∀ t ∈ txt, t.size ≤ 100) (hn : name.size ≤ 140737488351232) :
    Calls Tryz.prog 11 #[.string name, .pointer (some ⟨p, 0, none⟩)] w fun e w' =>
      ∃ A c keys, e = .returned (.slice A (auditC name keys (cntT txt) (fun x => (f x).isSome)).length c) ∧ Srt keys ∧ (∀ x, x ∈ keys ↔ cntT txt x ≠ 0) ∧ Rs w' w'.heap.size A (auditC name keys (cntT txt) (fun x => (f x).isSome)) ∧ Below w.heap.size w w' := by
  have hmm := @run_makeMap Tryz.prog
  have hmf : ∀ (fn : Fn) (first cap : Array Value) (w : World), (Instr.makeFunc fn first cap).run Tryz.prog w = .ok (.func fn first cap) w := fun _ _ _ _ => rfl
  have HCs := Lib.hid hCs
  have HW0 := Lib.hid (Cw.start w name)
  clear hCs
  go_enter Tryz.func11, Tryz.ntmps11
  go_wp2_with fail
  have HCs1 := Lib.hid (HCs.out.below (show Below w.heap.size w (startW w name) from HW0.out.bel))
  change Calls _ _ _ (startW w name) _
  generalize startW w name = w1 at *
  obtain ⟨b, h, n, m, G, pv, L, hcr, htx, hn10, hm10, _, _⟩ := HCs1.out.cr
  have hLl : L.length ≤ 100 := by
    have h1 := HCs1.out.len
    rw [← htx] at h1
    simp at h1
    omega
  have Hcr := Lib.hid hcr
  have Htx0 := Lib.hid htx
  clear htx hcr
  refine (ledgerPosts_any L w1 Hcr.out.led (by omega)).mono ?_
  rintro e w2 ⟨pl, L', rfl, hpts, hP, hb2⟩
  have hl' : L'.length = L.length := by have := congrArg List.length hpts; simpa using this
  have Htx : Hid (L'.map (fun x => x.pt.text) = txt) := Lib.hid (by
    have := congrArg (List.map (fun q : Pt => q.text)) hpts
    simp only [List.map_map] at this
    rw [← Htx0.out]
    exact this)
  have htl : txt.length = L'.length := by rw [← Htx.out]; simp
  have HP := Lib.hid hP
  have HW2 := Lib.hid (HW0.out.below hb2)
  have Hcr2 := Lib.hid (Hcr.out.below hb2)
  have HB2 := Lib.hid hb2
  obtain ⟨Ap, cp, rfl⟩ := hP.form
  clear hP hb2 hpts HW0 Hcr HCs1 Htx0
  go_wp2_with fail
  go_loopw [18] (fun i wr => ∃ k : Nat, i = .int .i64 (k : Int) ∧ k ≤ L'.length ∧ Hid (Cw w wr w.heap.size name k 0 (cntT (txt.take k)) (fun _ => false)) ∧ Hid (Kp (fun q => q = w.heap.size + 1) w2 wr)) (fun i _ => L'.length - (RowKit.intOf i).toNat)
  case atStart => exact ⟨0, rfl, Nat.zero_le _, HW2, Lib.hid ⟨rfl, rfl, rfl, Nat.le_refl _, fun _ _ _ => rfl⟩⟩
  case round =>
    obtain ⟨k, rfl, hk, HW, HK⟩ := hrel
    by_cases hlt : k < L'.length
    · have hlt' : (k : Int) < (L'.length : Int) := by omega
      have hltx : k < txt.length := by omega
      obtain ⟨g, cap, he, hg, c0, c1, c2⟩ := HP.out.at_ hlt
      injection he with e1 _ e2
      subst e1 e2
      have hgn : g ≠ w.heap.size + 1 := HW2.out.mt_.ne_cell c0
      have d0 := (HK.out.cell (p := ⟨g, k * 3, none⟩) hg hgn).trans c0
      have d1 := (HK.out.cell (p := ⟨g, k * 3 + 1, none⟩) hg hgn).trans c1
      have d2 := (HK.out.cell (p := ⟨g, k * 3 + 2, none⟩) hg hgn).trans c2
      have htk : L'[k].pt.text = txt[k] := by
        have h1 := Htx.out
        subst h1
        simp
      have hts : txt[k].size ≤ 100 := ht _ (List.getElem_mem hltx)
      have hsn := Lib.hid (cntT_no txt k hltx)
      have hsp := Lib.hid (cntF_put txt k hltx)
      have hle : cntT (txt.take k) (idOf txt[k]) ≤ 100 := by
        have := cntT_le (txt.take k) (idOf txt[k])
        rw [List.length_take] at this
        omega
      rw [htk] at d1
      clear c0 c1 c2 htk
      generalize txt[k] = t at *
      obtain ⟨⟨⟨num, text, ents⟩, Ax, cx⟩, hx⟩ : ∃ x : Pl, L'[k] = x := ⟨_, rfl⟩
      rw [hx] at d0 d2
      simp only at d0 d2
      clear hx
      have HWa := Lib.hid (HW.out.alloc (.cells #[.int .i64 num, .string t, .slice Ax ents.length cx] 67))
      have HKa := Lib.hid (HK.out.trans (Kp.of_below _ ((Below.refl wr.heap.size wr).alloc (Nat.le_refl _) (.cells #[.int .i64 num, .string t, .slice Ax ents.length cx] 67))))
      have hci := isCr_is t
      cases hb1 : Lib.hasPrefix t.data.toList [116, 97, 107, 101, 32] with
      | false =>
        have hcr0 : isCr t = false := by rw [hci, hb1]; rfl
        have Hs := Lib.hid (hsn.out hcr0)
        have HC := Lib.hid (fun W => cut_no t W hb1)
        clear hci hb1 hcr0
        go_wp2_with (first
          | (go_at_call 22; refine (HC.out _).mono ?_; rintro e w' ⟨⟨r, rfl⟩, rfl⟩)
          | go_in)
        go_roundw
        case rel => exact ⟨k + 1, by go_num, by omega, by rw [Hs.out]; exact Lib.hid (HWa.out.more (by omega)), HKa⟩
        case measure => simp [RowKit.intOf]; omega
      | true =>
        have HC := Lib.hid (fun W => cut_yes t W hb1)
        cases hb2 : Lib.hasPrefix (t.data.toList.drop 5) [99, 114, 101, 100, 105, 116, 58] with
        | false =>
          have hcr0 : isCr t = false := by rw [hci, hb1, hb2]; rfl
          have Hs := Lib.hid (hsn.out hcr0)
          have HH := Lib.hid (fun W => has_cr t W false hb2)
          clear hci hb1 hb2 hcr0
          go_wp2_with (first
            | (go_at_call 22; refine (HC.out _).mono ?_; rintro e w' ⟨rfl, rfl⟩)
            | (go_at_call 23; refine (HH.out _).mono ?_; rintro e w' ⟨rfl, rfl⟩)
            | go_in)
          go_roundw
          case rel => exact ⟨k + 1, by go_num, by omega, by rw [Hs.out]; exact Lib.hid (HWa.out.more (by omega)), HKa⟩
          case measure => simp [RowKit.intOf]; omega
        | true =>
          have hcr0 : isCr t = true := by rw [hci, hb1, hb2]; rfl
          have Hs := Lib.hid (hsp.out hcr0)
          have HH := Lib.hid (fun W => has_cr t W true hb2)
          have hok : curC.ok (idOf t) := by
            have := idOf_size t hts
            show (idOf t).size ≤ maxLen
            unfold maxLen
            omega
          have lk := HWa.out.lookT hok
          have ct := HWa.out.ct
          obtain ⟨w5, hup, hM5, hT5⟩ := HWa.out.mt_.store (t := 64) (e := 3) (by rfl) (by unfold maxLen; omega) hok (v := (cntT (txt.take k) (idOf t) : Int) + 1) (by
            show (Lit.int .i64 _).wf = true
            exact wf64 (by omega) (by omega))
          rw [Hs.out] at hM5
          have HW5 := Lib.hid (HWa.out.putT hM5 hT5)
          have hup' : (Instr.mapUpdate 64 (.map (some (w.heap.size + 1))) (.string (idOf t)) (.int .i64 ((cntT (txt.take k) (idOf t) : Int) + 1))).run Tryz.prog (wr.alloc (.cells #[.int .i64 num, .string t, .slice Ax ents.length cx] 67)) = .ok () w5 := hup
          clear hci hb1 hb2 hcr0 hM5 hT5 hup
          go_wp2_with (first
            | (go_at_call 22; refine (HC.out _).mono ?_; rintro e w' ⟨rfl, rfl⟩)
            | (go_at_call 23; refine (HH.out _).mono ?_; rintro e w' ⟨rfl, rfl⟩)
            | go_in)
          go_roundw
          case rel => exact ⟨k + 1, by go_num, by omega, Lib.hid HW5.out.1, Lib.hid (HKa.out.trans HW5.out.2)⟩
          case measure => simp [RowKit.intOf]; omega
    · have hlt' : ¬ (k : Int) < (L'.length : Int) := by omega
      have hke : txt.take k = txt := List.take_of_length_le (by omega)
      rw [hke] at HW
      have HCsr := Lib.hid (HCs.out.below HW.out.bel)
      obtain ⟨b', h', n', m', G', pv', L2, hcr', _, _, hm', _, _⟩ := HCsr.out.cr
      have HH := Lib.hid (ledgerHolds_any wr p b' h' n' m' G' pv' (holdsF f) ids hcr'.lh (by omega) (fun i hi => hf i (by simpa [holdsF] using hi)) hil)
      clear hcr' HCsr
      go_wp2_with (first
        | (go_at_call 14; refine HH.out.mono ?_; rintro e w3 ⟨Ah, ch, hs, xs, rfl, hV, hPm, hhl, hRh, hb3⟩)
        | go_in)
      have hids := vals_ids hV hf his
      have Hheld : Hid (heldIn hs = fun x => (f x).isSome) := Lib.hid (by
        funext x
        rw [Bool.eq_iff_iff]
        refine Iff.trans ?_ (hids.2 x)
        unfold heldIn
        rw [List.any_eq_true]
        constructor
        · rintro ⟨y, hy, e⟩
          exact ⟨y, hPm.mem_iff.1 hy, by simpa using e⟩
        · rintro ⟨y, hy, e⟩
          exact ⟨y, hPm.mem_iff.2 hy, by simpa using e⟩)
      have Hsz : Hid (∀ y ∈ hs, y.id.size ≤ 1000) := Lib.hid (fun y hy => his _ (hf _ ((hids.2 y.id).1 ⟨y, hPm.mem_iff.1 hy, rfl⟩)))
      have HW3 := Lib.hid (HW.out.below hb3)
      have HRh := Lib.hid hRh
      clear hV hPm hRh hb3 hids HH HW HK HP Htx HW2 Hcr2 HB2
      go_loopw [41] (fun i wq => ∃ j : Nat, i = .int .i64 (j : Int) ∧ j ≤ hs.length ∧ Hid (Cw w wq w.heap.size name k j (cntT txt) (heldIn (hs.take j))) ∧ Hid (Kp (fun q => q = w.heap.size + 1 + 1) w3 wq)) (fun i _ => hs.length - (RowKit.intOf i).toNat)
      case atStart => exact ⟨0, rfl, Nat.zero_le _, HW3, Lib.hid ⟨rfl, rfl, rfl, Nat.le_refl _, fun _ _ _ => rfl⟩⟩
      case round =>
        obtain ⟨j, rfl, hj, HW, HK⟩ := hrel
        by_cases hjl : j < hs.length
        · have hjl' : (j : Int) < (hs.length : Int) := by omega
          obtain ⟨g, off, rfl, hg, hc⟩ := HRh.out (by omega)
          obtain ⟨c0, c1, c2, c3⟩ := hc j _ (List.getElem?_eq_getElem hjl)
          have hgn : g ≠ w.heap.size + 1 + 1 := HW3.out.mh_.ne_cell c0
          have d0 := (HK.out.cell (p := ⟨g, off + j * 4, none⟩) hg hgn).trans c0
          have d1 := (HK.out.cell (p := ⟨g, off + j * 4 + 1, none⟩) hg hgn).trans c1
          have d2 := (HK.out.cell (p := ⟨g, off + j * 4 + 2, none⟩) hg hgn).trans c2
          have d3 := (HK.out.cell (p := ⟨g, off + j * 4 + 3, none⟩) hg hgn).trans c3
          have Hs := Lib.hid (heldF_put hs j hjl)
          have hys := Hsz.out _ (List.getElem_mem hjl)
          clear hc c0 c1 c2 c3
          generalize hs[j] = y at *
          obtain ⟨yi, ya, yc, yn⟩ := y
          simp only at d0 d1 d2 d3 hys Hs
          have HWa := Lib.hid (HW.out.alloc (.cells #[.string yi, .string ya, .string yc, .int .i64 yn] 56))
          have HKa := Lib.hid (HK.out.trans (Kp.of_below _ ((Below.refl wr.heap.size wr).alloc (Nat.le_refl _) (.cells #[.string yi, .string ya, .string yc, .int .i64 yn] 56))))
          have hok : curC.ok yi := by
            show yi.size ≤ maxLen
            unfold maxLen
            omega
          have chh := HWa.out.ch
          obtain ⟨w5, hup, hM5, hT5⟩ := HWa.out.mh_.store (t := 65) (e := 4) (by rfl) (by unfold maxLen; omega) hok (v := true) trivial
          rw [Hs.out] at hM5
          have HW5 := Lib.hid (HWa.out.putH hM5 hT5)
          have hup' : (Instr.mapUpdate 65 (.map (some (w.heap.size + 1 + 1))) (.string yi) (.bool true)).run Tryz.prog (wr.alloc (.cells #[.string yi, .string ya, .string yc, .int .i64 yn] 56)) = .ok () w5 := hup
          clear hM5 hT5 hup
          go_wp2
          go_roundw
          case rel => exact ⟨j + 1, by go_num, by omega, Lib.hid HW5.out.1, Lib.hid (HKa.out.trans HW5.out.2)⟩
          case measure => simp [RowKit.intOf]; omega
        · have hjl' : ¬ (j : Int) < (hs.length : Int) := by omega
          have hje : hs.take j = hs := List.take_of_length_le (by omega)
          rw [hje, Hheld.out] at HW
          have HG := Lib.hid (gatherC_any wr (w.heap.size + 1 + 1 + 1) w.heap.size (w.heap.size + 1 + 1 + 1 + 1) (w.heap.size + 1) (w.heap.size + 1 + 1) k j name (cntT txt) (fun x => (f x).isSome) HW.out.cc (by omega) hn (fun x hx => by
            have : 0 < cntT txt x := Nat.pos_of_ne_zero hx
            obtain ⟨t, ht1, ht2⟩ := List.countP_pos_iff.1 this
            simp only [Bool.and_eq_true, decide_eq_true_eq] at ht2
            have h1 := idOf_size t (ht t ht1)
            rw [ht2.2] at h1
            omega))
          have HBW := Lib.hid HW.out.bel
          clear HW HK
          go_wp2_with (first
            | (go_at_call 24; refine HG.out.mono ?_; rintro e w6 ⟨A6, c6, keys, rfl, hS6, hK6, hR6, hb6⟩)
            | go_in)
          have HR6 := Lib.hid hR6
          have HB6 := Lib.hid hb6
          clear hR6 hb6 HG
          go_wp2
          go_ret
          exact ⟨A6, c6, keys, rfl, hS6, hK6, HR6.out, HBW.out.trans (HB6.out.mono HBW.out.size)⟩
end Go.Proofs.YtooeelaobmhifaaGreatDoor
