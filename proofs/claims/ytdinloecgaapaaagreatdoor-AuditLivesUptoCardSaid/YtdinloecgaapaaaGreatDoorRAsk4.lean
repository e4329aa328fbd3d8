/- Register.ask, whole. -/
import Derived.Test.YtdinloecgaapaaaGreatDoorMRAsk2
namespace Go.Proofs.YtdinloecgaapaaaGreatDoor
open Go.RowKit Go.Maps Go.Lib
set_option linter.unusedVariables false
set_option maxRecDepth 100000

/-- what stands where nothing is wrong -/
def AskOk (a : Ac8) (G : ByteArray → Option (Option Nat)) : Prop := (∃ e, G a.b = some (some e)) ∧ a.le ≤ a.ix ∧ a.ix < 3
def AskP (a : Ac8) (G : ByteArray → Option (Option Nat)) (w : World) (en : Ending) (w' : World) : Prop := ∃ code : Int, en = .returned (.int .i64 code) ∧ (code = 0 → AskOk a G) ∧ Below w.heap.size w w'
/-- the six checks -/
def six (p q : Nat) : List Ck := [⟨4, 108, #[.pointer (some ⟨p, 0, none⟩)]⟩, ⟨3, 109, #[.pointer (some ⟨q, 0, none⟩)]⟩, ⟨1, 110, #[.pointer (some ⟨q, 0, none⟩)]⟩,
  ⟨9, 111, #[.pointer (some ⟨p, 0, none⟩), .pointer (some ⟨q, 0, none⟩)]⟩, ⟨8, 114, #[.pointer (some ⟨p, 0, none⟩), .pointer (some ⟨q, 0, none⟩)]⟩, ⟨6, 116, #[.pointer (some ⟨q, 0, none⟩), .pointer (some ⟨p, 0, none⟩)]⟩]
def sixT (a : Ac8) (v : Option Nat) : Nat → Bool → Prop
  | 0 => fun r => r = false → v ≠ none
  | 1 => fun r => r = false → a.le ≤ a.ix ∧ a.ix < 3
  | _ => fun _ => True
theorem six_fns {p q : Nat} {c : Ck} (h : c ∈ six p q) : ∀ args w, (callFunc c.fn args).run Tryz.prog w = .ok (.enter c.fn args) w := by
  simp only [six, List.mem_cons, List.not_mem_nil, or_false] at h
  rcases h with rfl | rfl | rfl | rfl | rfl | rfl
  · exact enters_of Tryz.func108 (by kernel_rfl) rfl
  · exact enters_of Tryz.func109 (by kernel_rfl) rfl
  · exact enters_of Tryz.func110 (by kernel_rfl) rfl
  · exact enters_of Tryz.func111 (by kernel_rfl) rfl
  · exact enters_of Tryz.func114 (by kernel_rfl) rfl
  · exact enters_of Tryz.func116 (by kernel_rfl) rfl
/-- the six checks, told one behind the other -/
theorem six_r (base r N b n p q g c : Nat) (ca : ByteArray) (G : ByteArray → Option (Option Nat)) (S : Nat → Option En) (a : Ac8) (v : Option Nat) (w : World) (hR : RgS w base r ca N b n G S) (hN : N ≤ 1000000) (hq : AtA w q a) (hp : w.cell? ⟨p, 0, none⟩ = some (ptV v)) (hv : v = (G a.b).getD none)
    (hC : CkAt w g (six p q)) (hg : g < w.heap.size) :
    Calls Tryz.prog 76 #[.slice (some ⟨g, 0, none⟩) 6 c] w fun en w' => AskP a G w en w' := by
  refine (first_r (six p q) (sixT a v) g c w hC hg (by simp [six]) (fun x hx => ?_) (fun x hx => six_fns hx) (fun j x hj hT W hb => ?_)).mono ?_
  · simp only [six, List.mem_cons, List.not_mem_nil, or_false] at hx
    rcases hx with rfl | rfl | rfl | rfl | rfl | rfl <;> simp
  · have hpW : W.cell? ⟨p, 0, none⟩ = some (ptV v) := (hb.cell (block_lt_of_cell hp)).trans hp
    have hqW := hq.below hb
    have hent : 2 < j → ∃ e x, v = some e ∧ S e = some x := fun h => by
      have := hT 0 (by omega) rfl
      cases hG : G a.b with
      | none => rw [hG] at hv; exact absurd hv this
      | some u =>
        obtain ⟨_, e, x, h1, h2⟩ := hR.ent _ _ hG
        refine ⟨e, x, ?_, h2⟩
        rw [hv, hG, h1]; rfl
    match j, hj with
    | 0, hj => cases hj; exact ask1_r p v W hpW
    | 1, hj => cases hj; exact ask2_r q a W hqW
    | 2, hj => cases hj; exact ask3_r q a W hqW
    | 3, hj => cases hj; obtain ⟨e, x, rfl, h2⟩ := hent (by decide); exact ask4_r base e q p x a W hqW hpW ((hR.at_ e x h2).below hb)
    | 4, hj => cases hj; obtain ⟨e, x, rfl, h2⟩ := hent (by decide); exact ask5_r base e q p x a W hqW hpW ((hR.at_ e x h2).below hb)
    | 5, hj => cases hj; obtain ⟨e, x, rfl, h2⟩ := hent (by decide); exact ask6_r base e q p x a W hqW hpW ((hR.at_ e x h2).below hb) (fun i hi => Nat.le_trans ((hR.fit e x h2).o i hi) hN)
    | j + 6, hj => simp [six] at hj
  · rintro en w' ⟨code, rfl, hT, hb⟩
    refine ⟨code, rfl, fun h0 => ?_, hb⟩
    have h1 := hT h0 0 (by simp [six]) rfl
    have h2 := hT h0 1 (by simp [six]) rfl
    refine ⟨?_, h2⟩
    cases hG : G a.b with
    | none => rw [hG] at hv; exact absurd hv h1
    | some u =>
      obtain ⟨_, e, x, h1, _⟩ := hR.ent _ _ hG
      exact ⟨e, by rw [h1]⟩
set_option maxHeartbeats 4000000 in
theorem ask_r (base r N b n : Nat) (ca : ByteArray) (G : ByteArray → Option (Option Nat)) (S : Nat → Option En) (a : Ac8) (w : World) (hR : RgS w base r ca N b n G S) (hN : N ≤ 1000000) (hk : a.b.size ≤ maxLen) :
    Calls Tryz.prog 85 #[.pointer (some ⟨r, 0, none⟩), .agg (ac8A a)] w fun en w' => AskP a G w en w' := by
  have hb1 : Below w.heap.size w (w.alloc (.cells (ac8A a) 164)) := (Below.refl _ _).alloc (Nat.le_refl _) _
  have hd1 : Below w.heap.size w (w.alloc (.cells (ac8A a) 164)).drew := hb1.trans ⟨rfl, rfl, rfl, Nat.le_refl _, fun _ _ => rfl⟩
  have hb2 : Below w.heap.size w ((w.alloc (.cells (ac8A a) 164)).alloc (.cells #[.pointer none] 124)).drew := (hb1.alloc (by simp) _).trans ⟨rfl, rfl, rfl, Nat.le_refl _, fun _ _ => rfl⟩
  obtain ⟨_, c1⟩ := (hR.below hd1).cell
  obtain ⟨_, c2⟩ := (hR.below hb2).cell
  have hlk := (hR.below hd1).look (k := a.b) hk
  have hlk2 := (hR.below hb2).look (k := a.b) hk
  obtain ⟨v, hv⟩ : ∃ v, v = (G a.b).getD none := ⟨_, rfl⟩
  rw [← hv] at hlk hlk2
  have hvv : ∃ pv, ptV v = .pointer pv := by cases v <;> exact ⟨_, rfl⟩
  obtain ⟨pv, hpv⟩ := hvv
  rw [hpv] at hlk hlk2
  have HX : Hid (Calls Tryz.prog 76 #[.slice (some ⟨w.heap.size + 1 + 1, 0, none⟩) 6 6] (((w.alloc (.cells (ac8A a) 164)).alloc (.cells #[.pointer pv] 124)).alloc (.cells #[.int .i64 4, .func (.func 108) #[] #[.pointer (some ⟨w.heap.size + 1, 0, none⟩)], .int .i64 3, .func (.func 109) #[] #[.pointer (some ⟨w.heap.size, 0, none⟩)],
      .int .i64 1, .func (.func 110) #[] #[.pointer (some ⟨w.heap.size, 0, none⟩)], .int .i64 9, .func (.func 111) #[] #[.pointer (some ⟨w.heap.size + 1, 0, none⟩), .pointer (some ⟨w.heap.size, 0, none⟩)], .int .i64 8, .func (.func 114) #[] #[.pointer (some ⟨w.heap.size + 1, 0, none⟩), .pointer (some ⟨w.heap.size, 0, none⟩)],
      .int .i64 6, .func (.func 116) #[] #[.pointer (some ⟨w.heap.size, 0, none⟩), .pointer (some ⟨w.heap.size + 1, 0, none⟩)]] 160)).drew fun en w' => ∃ code : Int, en = .returned (.int .i64 code) ∧ AskP a G w en w') := by
    obtain ⟨W1, hW1⟩ : ∃ W1, W1 = w.alloc (.cells (ac8A a) 164) := ⟨_, rfl⟩
    have z1 : W1.heap.size = w.heap.size + 1 := by rw [hW1]; simp
    have a1 : AtA W1 w.heap.size a := by rw [hW1]; exact heap_alloc_new _ _
    rw [← hW1] at hb1 ⊢
    obtain ⟨W2, hW2⟩ : ∃ W2, W2 = W1.alloc (.cells #[.pointer pv] 124) := ⟨_, rfl⟩
    have z2 : W2.heap.size = w.heap.size + 1 + 1 := by rw [hW2]; simp [z1]
    have b2 : Below W1.heap.size W1 W2 := by rw [hW2]; exact (Below.refl _ _).alloc (Nat.le_refl _) _
    have p2 : W2.cell? ⟨w.heap.size + 1, 0, none⟩ = some (ptV v) := by rw [hW2, ← z1, hpv]; simp
    rw [← hW2]
    obtain ⟨row, hrow⟩ : ∃ row : Array Value, row = #[.int .i64 4, .func (.func 108) #[] #[.pointer (some ⟨w.heap.size + 1, 0, none⟩)], .int .i64 3, .func (.func 109) #[] #[.pointer (some ⟨w.heap.size, 0, none⟩)],
      .int .i64 1, .func (.func 110) #[] #[.pointer (some ⟨w.heap.size, 0, none⟩)], .int .i64 9, .func (.func 111) #[] #[.pointer (some ⟨w.heap.size + 1, 0, none⟩), .pointer (some ⟨w.heap.size, 0, none⟩)], .int .i64 8, .func (.func 114) #[] #[.pointer (some ⟨w.heap.size + 1, 0, none⟩), .pointer (some ⟨w.heap.size, 0, none⟩)],
      .int .i64 6, .func (.func 116) #[] #[.pointer (some ⟨w.heap.size, 0, none⟩), .pointer (some ⟨w.heap.size + 1, 0, none⟩)]] := ⟨_, rfl⟩
    rw [← hrow]
    have b3 : Below W2.heap.size W2 (W2.alloc (.cells row 160)).drew := ((Below.refl _ _).alloc (Nat.le_refl _) _).trans ⟨rfl, rfl, rfl, Nat.le_refl _, fun _ _ => rfl⟩
    have z3 : (W2.alloc (.cells row 160)).drew.heap.size = w.heap.size + 1 + 1 + 1 := by simp [z2]
    have c3 : ∀ j, (W2.alloc (.cells row 160)).drew.cell? ⟨w.heap.size + 1 + 1, j, none⟩ = row[j]? := fun j => by
      rw [← z2]; simp
    have hb3 : Below w.heap.size w (W2.alloc (.cells row 160)).drew := hb1.trans ((b2.trans (b3.mono (by omega))).mono (by omega))
    refine (six_r base r N b n (w.heap.size + 1) w.heap.size (w.heap.size + 1 + 1) 6 ca G S a v _ (hR.below hb3) hN ((a1.below b2).below b3) ((b3.cell (p := ⟨w.heap.size + 1, 0, none⟩) (by show w.heap.size + 1 < _; omega)).trans p2) hv ?_ (by omega)).mono ?_
    · intro i x hx
      rw [c3, c3, hrow]
      match i, hx with
      | 0, hx => cases hx; exact ⟨rfl, rfl⟩
      | 1, hx => cases hx; exact ⟨rfl, rfl⟩
      | 2, hx => cases hx; exact ⟨rfl, rfl⟩
      | 3, hx => cases hx; exact ⟨rfl, rfl⟩
      | 4, hx => cases hx; exact ⟨rfl, rfl⟩
      | 5, hx => cases hx; exact ⟨rfl, rfl⟩
      | i + 6, hx => simp [six] at hx
    · rintro en w' ⟨code, rfl, h1, h2⟩
      exact ⟨code, rfl, code, rfl, h1, hb3.trans (h2.mono (by omega))⟩
  clear hR hb1 hd1 hb2 hv hpv hk hN
  generalize AskP a G w = CP at *
  unfold ac8A at *
  go_enter Tryz.func85, Tryz.ntmps85
  go_wp2_with fail
  go_region
  all_goals
    clear hlk hlk2 c1 c2
    go_wp2_with (first
      | (go_at_call 76; refine HX.out.mono ?_; rintro en w2 ⟨code, rfl, h2⟩; have HF := Lib.hid h2; clear h2)
      | fail)
  all_goals
    first
      | exact HF.out
      | (go_ret; exact HF.out)
end Go.Proofs.YtdinloecgaapaaaGreatDoor
