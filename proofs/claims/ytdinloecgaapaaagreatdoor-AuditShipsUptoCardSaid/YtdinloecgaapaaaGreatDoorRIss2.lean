/- Register.Issue. -/
import Derived.Test.YtdinloecgaapaaaGreatDoorMRIss0
import Derived.Test.YtdinloecgaapaaaGreatDoorMREnd
namespace Go.Proofs.YtdinloecgaapaaaGreatDoor
open Go.RowKit Go.Maps Go.Lib
set_option linter.unusedVariables false
set_option maxRecDepth 100000
set_option linter.unusedSimpArgs false

/-- the four checks -/
def four (q1 q2 q3 : Nat) : List Ck := [⟨1, 77, #[.pointer (some ⟨q1, 0, none⟩), .pointer (some ⟨q2, 0, none⟩), .pointer (some ⟨q3, 0, none⟩)]⟩, ⟨5, 80, #[.pointer (some ⟨q1, 0, none⟩), .pointer (some ⟨q2, 0, none⟩)]⟩,
  ⟨9, 81, #[.pointer (some ⟨q2, 0, none⟩), .pointer (some ⟨q1, 0, none⟩)]⟩, ⟨7, 84, #[.pointer (some ⟨q1, 0, none⟩)]⟩]
def fourT (x : En) : Nat → Bool → Prop
  | 0 => fun r => r = false → MayOk x
  | _ => fun _ => True
theorem four_fns {q1 q2 q3 : Nat} {c : Ck} (h : c ∈ four q1 q2 q3) : ∀ args w, (callFunc c.fn args).run Tryz.prog w = .ok (.enter c.fn args) w := by
  simp only [four, List.mem_cons, List.not_mem_nil, or_false] at h
  rcases h with rfl | rfl | rfl | rfl
  · exact enters_of Tryz.func77 (by kernel_rfl) rfl
  · exact enters_of Tryz.func80 (by kernel_rfl) rfl
  · exact enters_of Tryz.func81 (by kernel_rfl) rfl
  · exact enters_of Tryz.func84 (by kernel_rfl) rfl
def IsP (x : En) (w : World) (en : Ending) (w' : World) : Prop := ∃ code : Int, en = .returned (.int .i64 code) ∧ (code = 0 → MayOk x) ∧ Below w.heap.size w w'
theorem rs_below {w w' : World} {A : Option Addr} {L : List ByteArray} (h : Rs w w.heap.size A L) (hb : Below w.heap.size w w') : Rs w' w'.heap.size A L := fun hl => by
  obtain ⟨g, off, e1, hg, hc⟩ := h hl
  exact ⟨g, off, e1, Nat.lt_of_lt_of_le hg hb.size, fun i y hy => (hb.cell (p := ⟨g, off + i, none⟩) hg).trans (hc i y hy)⟩
theorem four_r (base r N b n q1 q2 q3 g c : Nat) (ca hd : ByteArray) (G : ByteArray → Option (Option Nat)) (S : Nat → Option En) (x : En) (w : World) (hR : RgS w base r ca N b n G S) (hN : N ≤ 10000) (hB : IsB w q1 q2 q3 r x hd)
    (hA : Rs w w.heap.size x.A x.l) (hP : Rs w w.heap.size x.PA x.p) (hl : x.l.length ≤ 100000000) (hp : x.p.length ≤ 100000000) (hC : CkAt w g (four q1 q2 q3)) (hg : g < w.heap.size) :
    Calls Tryz.prog 76 #[.slice (some ⟨g, 0, none⟩) 4 c] w fun en w' => IsP x w en w' := by
  refine (first_r (four q1 q2 q3) (fourT x) g c w hC hg (by simp [four]) (fun x hx => ?_) (fun x hx => four_fns hx) (fun j y hj hT W hb => ?_)).mono ?_
  · simp only [four, List.mem_cons, List.not_mem_nil, or_false] at hx
    rcases hx with rfl | rfl | rfl | rfl <;> simp
  · have hBW := hB.below hb
    have hRW := hR.below hb
    match j, hj with
    | 0, hj => cases hj; exact iss1_r q1 q2 q3 r ca hd x W hBW hRW.cell.1 (rs_below hA hb) (rs_below hP hb) hl hp
    | 1, hj => cases hj; exact iss2_r q1 q2 q3 base r N b n ca hd x G S W hBW hRW (hT 0 (by omega) rfl).nu
    | 2, hj => cases hj; exact iss3_r q1 q2 q3 base r N b n ca hd x G S W hBW hRW hN (rs_below hA hb) hl
    | 3, hj => cases hj; exact iss4_r q1 base r N b n ca G S W hBW.b1 hRW
    | j + 4, hj => simp [four] at hj
  · rintro en w' ⟨code, rfl, hT, hb⟩
    exact ⟨code, rfl, fun h0 => hT h0 0 (by simp [four]) rfl, hb⟩
/-- an entry as it begins -/
def En.new (x : En) (A : Option Addr) (c : Nat) (PA : Option Addr) (pc : Nat) : En := { x with A := A, c := c, PA := PA, pc := pc, s := 0, o := fun _ => ⟨0, ⟨#[]⟩, none, 0, 0⟩ }
def En.gave (x : En) (h : ByteArray) (k : Nat) : En := { x with o := fun i => if i < k then ⟨0, h, none, 0, 0⟩ else x.o i }
theorem gave_0 (y : En) (h : ByteArray) : y.gave h 0 = y := by simp [En.gave]
theorem gave_step (y : En) (h : ByteArray) (k : Nat) (hk : k < 3) : (((enA (y.gave h k)).setIfInBounds (10 + 3 * k) (.int .i64 0)).setIfInBounds (11 + 3 * k) (.string h)).setIfInBounds (12 + 3 * k) (.slice none 0 0) = enA (y.gave h (k + 1)) := by
  obtain rfl | rfl | rfl : k = 0 ∨ k = 1 ∨ k = 2 := by omega
  all_goals simp [enA, En.gave]
theorem three_set {w : World} {e : Nat} (y : En) (h : ByteArray) (k : Nat) (hk : k < 3) (ho : w.heap[e]? = some (.cells (enA (y.gave h k)) 132 (0, 0))) :
    (((w.setCell ⟨e, 10 + 3 * k, none⟩ (.int .i64 0)).setCell ⟨e, 11 + 3 * k, none⟩ (.string h)).setCell ⟨e, 12 + 3 * k, none⟩ (.slice none 0 0)).drew.heap[e]? = some (.cells (enA (y.gave h (k + 1))) 132 (0, 0)) := by
  have h1 := Go.heap_setCell_same w e (10 + 3 * k) _ 132 (.int .i64 0) ho
  have h2 := Go.heap_setCell_same _ e (11 + 3 * k) _ 132 (.string h) h1
  have h3 := Go.heap_setCell_same _ e (12 + 3 * k) _ 132 (.slice none 0 0) h2
  rw [gave_step y h k hk] at h3
  exact h3
/-- what stands ahead of the loop: u is the world in which the entry is laid -/
structure IsI (base r N b n e : Nat) (ca : ByteArray) (G : ByteArray → Option (Option Nat)) (S : Nat → Option En) (x : En) (A1 PA1 : Option Addr) (w u : World) : Prop where
  rg : RgS u base r ca N b n G S
  sz : u.heap.size = e
  box : Sr u A1 x.l
  par : Sr u PA1 x.p
  bel : Below base w u
  ok : MayOk x
theorem IsI.done {base r N b n e c1 pc1 : Nat} {ca hd : ByteArray} {G : ByteArray → Option (Option Nat)} {S : Nat → Option En} {x : En} {A1 PA1 : Option Addr} {w u V : World} (h : IsI base r N b n e ca G S x A1 PA1 w u) (hz : hd.size ≤ 100000000) (hN : N ≤ 10000) (hb : Below u.heap.size u V)
    (ho : V.heap[e]? = some (.cells (enA ((x.new A1 c1 PA1 pc1).gave hd 3)) 132 (0, 0))) :
    V.cell? ⟨r, 1, none⟩ = some (.map (some b)) ∧ ∃ w', (Instr.mapUpdate 113 (.map (some b)) (.string x.nu) (.pointer (some ⟨e, 0, none⟩))).run Tryz.prog V = .ok () w' ∧ Reg w' base r ca (N + 1) ∧ Below base w w' := by
  have hR := h.rg.below hb
  have hS : S e = none := by
    cases hS : S e with
    | none => rfl
    | some z =>
      have := lt_of_some (h.rg.at_ e z hS).obj
      have := h.sz
      omega
  have hE : EnAt V base e ((x.new A1 c1 PA1 pc1).gave hd 3) := by
    refine ⟨by have := h.rg.lo; have := h.sz; omega, ho, h.box.below hb, h.par.below hb, fun i hi => ⟨[], ?_, fun j hj => ?_⟩⟩
    · have : ((x.new A1 c1 PA1 pc1).gave hd 3).o i = ⟨0, hd, none, 0, 0⟩ := by simp [En.gave, hi]
      rw [this]
      exact World.ownsRow_nil _ _ _ _
    · have : ((x.new A1 c1 PA1 pc1).gave hd 3).o i = ⟨0, hd, none, 0, 0⟩ := by simp [En.gave, hi]
      rw [this] at hj
      simp at hj
  have hF : Fit (N + 1) ((x.new A1 c1 PA1 pc1).gave hd 3) := ⟨h.ok.l, h.ok.b, h.ok.p, fun i hi => by
    have : ((x.new A1 c1 PA1 pc1).gave hd 3).o i = ⟨0, hd, none, 0, 0⟩ := by simp [En.gave, hi]
    rw [this]; exact Nat.zero_le _, fun i hi => by
    have : ((x.new A1 c1 PA1 pc1).gave hd 3).o i = ⟨0, hd, none, 0, 0⟩ := by simp [En.gave, hi]
    rw [this]; exact hz⟩
  obtain ⟨w', h1, h2, h3⟩ := hR.put hE hF (fun i hi => by
    have : ((x.new A1 c1 PA1 pc1).gave hd 3).o i = ⟨0, hd, none, 0, 0⟩ := by simp [En.gave, hi]
    rw [this]; rfl) hS h.ok.nu (by omega)
  exact ⟨hR.cell.2, w', h1, ⟨b, n + 1, _, _, h2⟩, (h.bel.trans (hb.mono h.rg.lo)).trans h3⟩
set_option maxHeartbeats 8000000 in
theorem issue_r (base r N : Nat) (ca hd : ByteArray) (x : En) (w : World) (hR : Reg w base r ca N) (hN : N ≤ 10000) (hA : Rs w w.heap.size x.A x.l) (hP : Rs w w.heap.size x.PA x.p) (hl : x.l.length ≤ 100000000) (hp : x.p.length ≤ 100000000) (hz : hd.size ≤ 100000000) :
    Calls Tryz.prog 50 #[.pointer (some ⟨r, 0, none⟩), .agg (blA x), .string hd] w fun en w' => OpP base r ca (N + 1) w en w' := by
  obtain ⟨b, n, G, S, hR⟩ := hR
  have HX : Hid (Calls Tryz.prog 76 #[.slice (some ⟨w.heap.size + 1 + 1 + 1, 0, none⟩) 4 4] ((((w.alloc (.cells #[.pointer (some ⟨r, 0, none⟩)] 29)).alloc (.cells (blA x) 59)).alloc (.cells #[.string hd] 9)).alloc (.cells #[.int .i64 1, .func (.func 77) #[] #[.pointer (some ⟨w.heap.size, 0, none⟩), .pointer (some ⟨w.heap.size + 1, 0, none⟩), .pointer (some ⟨w.heap.size + 1 + 1, 0, none⟩)], .int .i64 5, .func (.func 80) #[] #[.pointer (some ⟨w.heap.size, 0, none⟩), .pointer (some ⟨w.heap.size + 1, 0, none⟩)],
      .int .i64 9, .func (.func 81) #[] #[.pointer (some ⟨w.heap.size + 1, 0, none⟩), .pointer (some ⟨w.heap.size, 0, none⟩)], .int .i64 7, .func (.func 84) #[] #[.pointer (some ⟨w.heap.size, 0, none⟩)]] 160))
      fun en w' => ∃ code : Int, en = .returned (.int .i64 code) ∧ Hid (code = 0 → MayOk x) ∧ Hid (IsB w' w.heap.size (w.heap.size + 1) (w.heap.size + 1 + 1) r x hd) ∧ Hid (Below w.heap.size w w')) := Lib.hid (by
    obtain ⟨W1, hW1⟩ : ∃ W1, W1 = w.alloc (.cells #[.pointer (some ⟨r, 0, none⟩)] 29) := ⟨_, rfl⟩
    have z1 : W1.heap.size = w.heap.size + 1 := by rw [hW1]; simp
    have e1 : Below w.heap.size w W1 := by rw [hW1]; exact (Below.refl _ _).alloc (Nat.le_refl _) _
    have a1 : W1.cell? ⟨w.heap.size, 0, none⟩ = some (.pointer (some ⟨r, 0, none⟩)) := by rw [hW1]; simp
    rw [← hW1]
    clear hW1
    obtain ⟨W2, hW2⟩ : ∃ W2, W2 = W1.alloc (.cells (blA x) 59) := ⟨_, rfl⟩
    have z2 : W2.heap.size = w.heap.size + 1 + 1 := by rw [hW2]; simp [z1]
    have e2 : Below W1.heap.size W1 W2 := by rw [hW2]; exact (Below.refl _ _).alloc (Nat.le_refl _) _
    have a2 : W2.heap[w.heap.size + 1]? = some (.cells (blA x) 59 (0, 0)) := by rw [hW2, ← z1]; exact heap_alloc_new _ _
    rw [← hW2]
    clear hW2
    obtain ⟨W3, hW3⟩ : ∃ W3, W3 = W2.alloc (.cells #[.string hd] 9) := ⟨_, rfl⟩
    have z3 : W3.heap.size = w.heap.size + 1 + 1 + 1 := by rw [hW3]; simp [z2]
    have e3 : Below W2.heap.size W2 W3 := by rw [hW3]; exact (Below.refl _ _).alloc (Nat.le_refl _) _
    have a3 : W3.cell? ⟨w.heap.size + 1 + 1, 0, none⟩ = some (.string hd) := by rw [hW3, ← z2]; simp
    rw [← hW3]
    clear hW3
    obtain ⟨row, hrow⟩ : ∃ row : Array Value, row = #[.int .i64 1, .func (.func 77) #[] #[.pointer (some ⟨w.heap.size, 0, none⟩), .pointer (some ⟨w.heap.size + 1, 0, none⟩), .pointer (some ⟨w.heap.size + 1 + 1, 0, none⟩)], .int .i64 5, .func (.func 80) #[] #[.pointer (some ⟨w.heap.size, 0, none⟩), .pointer (some ⟨w.heap.size + 1, 0, none⟩)],
      .int .i64 9, .func (.func 81) #[] #[.pointer (some ⟨w.heap.size + 1, 0, none⟩), .pointer (some ⟨w.heap.size, 0, none⟩)], .int .i64 7, .func (.func 84) #[] #[.pointer (some ⟨w.heap.size, 0, none⟩)]] := ⟨_, rfl⟩
    rw [← hrow]
    have e4 : Below W3.heap.size W3 (W3.alloc (.cells row 160)) := (Below.refl _ _).alloc (Nat.le_refl _) _
    have c4 : ∀ j, (W3.alloc (.cells row 160)).cell? ⟨w.heap.size + 1 + 1 + 1, j, none⟩ = row[j]? := fun j => by rw [← z3]; simp
    have z4 : (W3.alloc (.cells row 160)).heap.size = w.heap.size + 1 + 1 + 1 + 1 := by simp [z3]
    have e34 : Below W2.heap.size W2 (W3.alloc (.cells row 160)) := e3.trans (e4.mono (by omega))
    have e24 : Below W1.heap.size W1 (W3.alloc (.cells row 160)) := e2.trans (e34.mono (by omega))
    have e14 : Below w.heap.size w (W3.alloc (.cells row 160)) := e1.trans (e24.mono (by omega))
    have hB : IsB (W3.alloc (.cells row 160)) w.heap.size (w.heap.size + 1) (w.heap.size + 1 + 1) r x hd :=
      ⟨(e24.cell (block_lt_of_cell a1)).trans a1, keep_of_below e34 a2, (e4.cell (block_lt_of_cell a3)).trans a3⟩
    refine (four_r base r N b n w.heap.size (w.heap.size + 1) (w.heap.size + 1 + 1) (w.heap.size + 1 + 1 + 1) 4 ca hd G S x _ (hR.below e14) hN hB (rs_below hA e14) (rs_below hP e14) hl hp ?_ (by omega)).mono ?_
    · intro i y hy
      rw [c4, c4, hrow]
      match i, hy with
      | 0, hy => cases hy; exact ⟨rfl, rfl⟩
      | 1, hy => cases hy; exact ⟨rfl, rfl⟩
      | 2, hy => cases hy; exact ⟨rfl, rfl⟩
      | 3, hy => cases hy; exact ⟨rfl, rfl⟩
      | i + 4, hy => simp [four] at hy
    · rintro en w' ⟨code, rfl, h1, h2⟩
      exact ⟨code, rfl, Lib.hid h1, Lib.hid (hB.below h2), Lib.hid (e14.trans (h2.mono (by omega)))⟩)
  have HRB : Hid (∀ W, Below w.heap.size w W → RgS W base r ca N b n G S ∧ Below base w W) := Lib.hid (fun W hb => ⟨hR.below hb, hb.mono hR.lo⟩)
  have HCp : Hid (∀ W, Below w.heap.size w W → MayOk x → Calls Tryz.prog 58 #[.agg (blA x)] W fun en w' => ∃ A1 c1 PA1 pc1, en = .returned (.agg #[.string x.nu, .string x.ca, .string x.sh, .string x.fr, .string x.to, .slice A1 x.l.length c1, .slice PA1 x.p.length pc1, .int .i64 x.is, .bool x.cl]) ∧
      Hid (IsI base r N b n w'.heap.size ca G S x A1 PA1 w w') ∧ Hid (Below W.heap.size W w')) := Lib.hid (fun W hb hm => by
    refine (copyBill_r x W (rs_below hA hb) (rs_below hP hb) (by have := hm.l; omega) (by have := hm.p; omega)).mono ?_
    rintro en w' ⟨A1, c1, PA1, pc1, rfl, hs1, hs2, hb2⟩
    have h1 := hb.trans (hb2.mono hb.size)
    exact ⟨A1, c1, PA1, pc1, rfl, Lib.hid ⟨hR.below h1, rfl, hs1, hs2, h1.mono hR.lo, hm⟩, Lib.hid hb2⟩)
  clear hR hA hP
  generalize hCP : OpP base r ca (N + 1) w = CP
  have hV : (.agg (blA x) : Value) = .agg #[.string x.nu, .string x.ca, .string x.sh, .string x.fr, .string x.to, .slice x.A x.l.length x.c, .slice x.PA x.p.length x.pc, .int .i64 x.is, .bool x.cl] := rfl
  rw [hV]
  clear hV
  have c8' : ∀ w2, IsB w2 w.heap.size (w.heap.size + 1) (w.heap.size + 1 + 1) r x hd → ∀ j, w2.cell? ⟨w.heap.size + 1, j, none⟩ = (blA x)[j]? := fun w2 h j => h.c j
  have HC8 := Lib.hid c8'
  clear c8'
  unfold blA at HX HCp HC8
  go_enter Tryz.func50, Tryz.ntmps50
  go_wp2_with fail
  refine HX.out.mono ?_
  rintro en w2 ⟨code, rfl, hok, HB, HB2⟩
  clear HX
  by_cases hc : code = 0
  · subst hc
    have HC := Lib.hid (HCp.out w2 HB2.out (hok.out rfl))
    have d0 := HC8.out w2 HB.out 0
    have d1 := HC8.out w2 HB.out 1
    have d2 := HC8.out w2 HB.out 2
    have d3 := HC8.out w2 HB.out 3
    have d4 := HC8.out w2 HB.out 4
    have d5 := HC8.out w2 HB.out 5
    have d6 := HC8.out w2 HB.out 6
    have d7 := HC8.out w2 HB.out 7
    have d8 := HC8.out w2 HB.out 8
    clear HCp
    go_wp2_with (first
      | (go_at_call 58; refine HC.out.mono ?_; rintro en w3 ⟨A1, c1, PA1, pc1, rfl, HI, HB3⟩; clear d0 d1 d2 d3 d4 d5 d6 d7 d8 HC)
      | fail)
    have HB3' := Lib.hid (HB.out.below HB3.out)
    have ha0 : Below w3.heap.size w3 (w3.alloc (.cells (enA ((x.new A1 c1 PA1 pc1).gave hd 0)) 132)) := (Below.refl _ _).alloc (Nat.le_refl _) _
    have HA0 := Lib.hid ha0
    have HO0 : Hid ((w3.alloc (.cells (enA ((x.new A1 c1 PA1 pc1).gave hd 0)) 132)).heap[w3.heap.size]? = some (.cells (enA ((x.new A1 c1 PA1 pc1).gave hd 0)) 132 (0, 0))) := Lib.hid (heap_alloc_new _ _)
    have hV0 : enA ((x.new A1 c1 PA1 pc1).gave hd 0) = #[.string x.nu, .string x.ca, .string x.sh, .string x.fr, .string x.to, .slice A1 x.l.length c1, .slice PA1 x.p.length pc1, .int .i64 x.is, .bool x.cl, .int .i64 0, .int .i64 0, .string ⟨#[]⟩, .slice none 0 0, .int .i64 0, .string ⟨#[]⟩, .slice none 0 0, .int .i64 0, .string ⟨#[]⟩, .slice none 0 0] := rfl
    rw [← hV0]
    clear hV0 ha0 hok HB HB3 HB2 HC8 HRB
    generalize w3.alloc (.cells (enA ((x.new A1 c1 PA1 pc1).gave hd 0)) 132) = W0 at *
    go_loopw [27] (fun i wr => ∃ k : Nat, k ≤ 3 ∧ i = .int .i64 (k : Int) ∧ Hid (wr.heap[w3.heap.size]? = some (.cells (enA ((x.new A1 c1 PA1 pc1).gave hd k)) 132 (0, 0))) ∧ Hid (Below w3.heap.size w3 wr)) (fun i _ => 3 - (RowKit.intOf i).toNat)
    case atStart => exact ⟨0, by omega, rfl, HO0, HA0⟩
    case round =>
      clear HO0 HA0
      obtain ⟨k, hk, rfl, HO, HA⟩ := hrel
      have HBr := Lib.hid (HB3'.out.below HA.out)
      by_cases hlt : k < 3
      · have b3 := HBr.out.b3
        have hO := HO.out
        generalize x.new A1 c1 PA1 pc1 = y at *
        have b1 : (k : Int) < 3 := by omega
        have g0 : wr.frozen? ⟨w3.heap.size, 10 + 3 * k, none⟩ = false := by simp [World.frozen?, hO]
        have g1 : wr.frozen? ⟨w3.heap.size, 11 + 3 * k, none⟩ = false := by simp [World.frozen?, hO]
        have g2 : wr.frozen? ⟨w3.heap.size, 12 + 3 * k, none⟩ = false := by simp [World.frozen?, hO]
        have i0 : wr.cell? ⟨w3.heap.size, 10 + 3 * k, none⟩ = (enA (y.gave hd k))[10 + 3 * k]? := by simp [World.cell?, hO]
        have i1 : wr.cell? ⟨w3.heap.size, 11 + 3 * k, none⟩ = (enA (y.gave hd k))[11 + 3 * k]? := by simp [World.cell?, hO]
        have i2 : wr.cell? ⟨w3.heap.size, 12 + 3 * k, none⟩ = (enA (y.gave hd k))[12 + 3 * k]? := by simp [World.cell?, hO]
        have HO' := Lib.hid (three_set y hd k hlt hO)
        have hA' : Below w3.heap.size w3 (((wr.setCell ⟨w3.heap.size, 10 + 3 * k, none⟩ (.int .i64 0)).setCell ⟨w3.heap.size, 11 + 3 * k, none⟩ (.string hd)).setCell ⟨w3.heap.size, 12 + 3 * k, none⟩ (.slice none 0 0)).drew := (((HA.out.setCell (Nat.le_refl _) _).setCell (Nat.le_refl _) _).setCell (Nat.le_refl _) _).trans ⟨rfl, rfl, rfl, Nat.le_refl _, fun _ _ => rfl⟩
        have HA' := Lib.hid hA'
        clear hA' HBr HB3' HO HA
        obtain rfl | rfl | rfl : k = 0 ∨ k = 1 ∨ k = 2 := by omega
        all_goals
          simp only [enA, Nat.mul_zero, Nat.add_zero, Int.cast_ofNat_Int, Nat.reduceMul, Nat.reduceAdd] at g0 g1 g2 i0 i1 i2 ⊢
          simp only [Nat.mul_zero, Nat.add_zero, Nat.reduceMul, Nat.reduceAdd] at HO' HA'
          clear hO
          go_wp2_with fail
          go_region
          go_wp2_with fail
        · exact ⟨⟨1, by omega, by go_num, HO', HA'⟩, by simp [RowKit.intOf]⟩
        · exact ⟨⟨2, by omega, by go_num, HO', HA'⟩, by simp [RowKit.intOf]⟩
        · exact ⟨⟨3, by omega, by go_num, HO', HA'⟩, by simp [RowKit.intOf]⟩
      · obtain rfl : k = 3 := by omega
        have d0 : wr.cell? ⟨w.heap.size + 1, 0, none⟩ = some (.string x.nu) := HBr.out.c 0
        have d1 := HBr.out.b1
        have e0 : wr.drew.cell? ⟨w.heap.size + 1, 0, none⟩ = some (.string x.nu) := d0
        have e1 : wr.drew.cell? ⟨w.heap.size, 0, none⟩ = some (.pointer (some ⟨r, 0, none⟩)) := d1
        obtain ⟨m1, w5, hst, h5, hb5⟩ := HI.out.done (c1 := c1) (pc1 := pc1) (hd := hd) (V := wr.drew) hz hN (HA.out.trans ⟨rfl, rfl, rfl, Nat.le_refl _, fun _ _ => rfl⟩) HO.out
        have m2 : wr.cell? ⟨r, 1, none⟩ = some (.map (some b)) := m1
        have HF : Hid (∀ v, CP (.returned v) w5) := Lib.hid (fun v => by rw [← hCP]; exact ⟨v, rfl, h5, hb5⟩)
        clear HI HO HA HBr HB3' h5 hb5 hCP
        generalize enA ((x.new A1 c1 PA1 pc1).gave hd 0) = V0 at *
        go_wp2_with fail
        go_region
        all_goals
          go_wp2_with fail
          first
            | exact HF.out _
            | (go_ret; exact HF.out _)
  · have b1 : (code == 0) = false := by simpa using hc
    have HF : Hid (∀ v, CP (.returned v) w2) := Lib.hid (fun v => by rw [← hCP]; exact ⟨v, rfl, ⟨b, n, G, S, (HRB.out w2 HB2.out).1.more (Nat.le_succ N)⟩, (HRB.out w2 HB2.out).2⟩)
    clear hok HB HB2 HRB HCp hCP HC8
    go_wp2_with fail
    first
      | exact HF.out _
      | (go_ret; exact HF.out _)
end Go.Proofs.YtdinloecgaapaaaGreatDoor
