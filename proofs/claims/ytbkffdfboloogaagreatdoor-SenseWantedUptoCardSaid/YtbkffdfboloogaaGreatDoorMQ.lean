/- How deep a rule is: syntax.within, the document's Depth. sense.each, of any function value. sense.wrong. -/
import Derived.Test.YtbkffdfboloogaaGreatDoorFNode
import Derived.Test.YtbkffdfboloogaaGreatDoorMO
import Derived.Test.YtbkffdfboloogaaGreatDoorMP
namespace Go.Proofs.YtbkffdfboloogaaGreatDoor
open Go.RowKit Go.Lib
set_option linter.unusedVariables false
set_option maxRecDepth 100000

def WithinSaid (x : Rl) : Prop := ∀ (d : Int) (A : Option Addr) (c : Nat) (w : World) (B : Nat), NL w B A x.l → B ≤ w.heap.size → nsz x ≤ 1000 → 0 ≤ d → d ≤ 100 →
  Calls Tryz.prog 119 #[.agg (rlA x A c), .int .i64 d] w fun e w' => e = .returned (.bool (decide ((dep x : Int) ≤ d))) ∧ Below w.heap.size w w'
set_option maxHeartbeats 1000000 in
theorem within1_any (x : Rl) (hx : WithinSaid x) (d : Int) (q : Nat) (A : Option Addr) (c : Nat) (w : World) (B : Nat) (hN : NL w B A x.l) (hB : B ≤ w.heap.size) (hn : nsz x ≤ 1000) (h0 : 1 ≤ d) (h1 : d ≤ 100) (hq : w.cell? ⟨q, 0, none⟩ = some (.int .i64 d)) :
    Calls Tryz.prog 146 #[.agg (rlA x A c), .pointer (some ⟨q, 0, none⟩)] w fun e w' => e = .returned (.bool (!decide ((dep x : Int) ≤ d - 1))) ∧ Below w.heap.size w w' := by
  have hb1 : Below w.heap.size w (w.alloc (.cells (rlA x A c) 33)) := (Below.refl _ _).alloc (Nat.le_refl _) _
  have hz1 : (w.alloc (.cells (rlA x A c) 33)).heap.size = w.heap.size + 1 := by simp
  have HX := Lib.hid (hx (d - 1) A c (w.alloc (.cells (rlA x A c) 33)) B (hN.kept (hb1.mono hB)) (by omega) hn (by omega) (by omega))
  have HB1 := Lib.hid hb1
  have hq2 : (w.alloc (.cells (rlA x A c) 33)).cell? ⟨q, 0, none⟩ = some (.int .i64 d) := Lib.cell?_alloc_some _ hq
  have Hz1 := Lib.hid hz1
  clear hx hN hb1 hz1
  unfold rlA at *
  generalize decide ((dep x : Int) ≤ d - 1) = r at *
  generalize x.l.length = xl at *
  generalize x.k = xk at *
  generalize x.p = xp at *
  generalize x.f = xf at *
  generalize x.t = xt at *
  generalize x.n = xn at *
  go_enter Tryz.func146, Tryz.ntmps146
  go_wp2_with (first
    | (go_at_call 119; refine HX.out.mono ?_; rintro e w3 ⟨rfl, hb3⟩; have HB3 := Lib.hid hb3; clear hb3)
    | fail)
  go_ret
  exact ⟨by cases r <;> rfl, HB1.out.trans (HB3.out.mono (by rw [Hz1.out]; omega))⟩
set_option maxHeartbeats 2000000 in
theorem within_step (x : Rl) (hC : ∀ y ∈ x.l, WithinSaid y) : WithinSaid x := by
  intro d A c w B hN hB hn h0 h1
  have hb1 : Below w.heap.size w (w.alloc (.cells (rlA x A c) 33)) := (Below.refl _ _).alloc (Nat.le_refl _) _
  have hb2 := hb1.alloc (by simp) (.cells #[.int .i64 d] 3)
  have hz2 : ((w.alloc (.cells (rlA x A c) 33)).alloc (.cells #[.int .i64 d] 3)).heap.size = w.heap.size + 2 := by simp
  have hq : ((w.alloc (.cells (rlA x A c) 33)).alloc (.cells #[.int .i64 d] 3)).cell? ⟨w.heap.size + 1, 0, none⟩ = some (.int .i64 d) := by simp
  have hns := nsz_l x
  have hlen := len_nszL x.l
  have HB2 := Lib.hid hb2
  have hE : dep x = depL x.l := dep_l x
  by_cases hl : x.l.length = 0
  · have HE : Hid (decide ((dep x : Int) ≤ d) = true) := Lib.hid (decide_eq_true (by
      have : x.l = [] := List.length_eq_zero_iff.1 hl
      rw [hE, this, depL]; omega))
    have e0 : ((x.l.length : Int) == 0) = true := by rw [beq_iff_eq]; omega
    clear hN hC hb1 hb2 hE hns hlen hq hz2 hl hn
    unfold rlA at *
    generalize decide ((dep x : Int) ≤ d) = r at *
    generalize x.l.length = xl at *
    generalize x.k = xk at *
    generalize x.p = xp at *
    generalize x.f = xf at *
    generalize x.t = xt at *
    generalize x.n = xn at *
    go_enter Tryz.func119, Tryz.ntmps119
    go_wp2
    go_ret
    exact ⟨by rw [HE.out]; rfl, HB2.out⟩
  · have e0 : ((x.l.length : Int) == 0) = false := by rw [beq_eq_false_iff_ne]; omega
    by_cases hd : 0 < d
    · have HE : Hid (decide ((dep x : Int) ≤ d) = !(x.l.any fun y => !decide ((dep y : Int) ≤ d - 1))) := Lib.hid (by
        rw [Bool.eq_iff_iff, decide_eq_true_iff, Bool.not_eq_true', List.any_eq_false, hE]
        constructor
        · intro h y hy
          have := (depL_le x.l d.toNat).1 (by omega) y hy
          simp
          omega
        · intro h
          have : depL x.l ≤ d.toNat := (depL_le x.l d.toNat).2 fun y hy => by
            have := h y hy
            simp at this
            omega
          omega)
      have HX := Lib.hid (containsN_any 146 #[.pointer (some ⟨w.heap.size + 1, 0, none⟩)] (enters_of Tryz.func146 (by kernel_rfl) rfl) B c A x.l (fun y => !decide ((dep y : Int) ≤ d - 1)) ((w.alloc (.cells (rlA x A c) 33)).alloc (.cells #[.int .i64 d] 3)) (hN.kept (hb2.mono hB)) (by omega) (by omega)
        (fun W y A' c' hy hn' hW => within1_any y (hC y hy) d (w.heap.size + 1) A' c' W B hn' (by have := hW.size; omega) (by have := nsz_mem x.l y hy; omega) hd h1 ((hW.cell (p := ⟨w.heap.size + 1, 0, none⟩) (by rw [hz2]; show w.heap.size + 1 < _; omega)).trans hq)))
      have Hz2 := Lib.hid hz2
      clear hN hC hb1 hb2 hE hns hlen hq hz2 hl hn
      unfold rlA at *
      generalize decide ((dep x : Int) ≤ d) = r at *
      generalize (x.l.any fun y => !decide ((dep y : Int) ≤ d - 1)) = r2 at *
      generalize x.l.length = xl at *
      generalize x.k = xk at *
      generalize x.p = xp at *
      generalize x.f = xf at *
      generalize x.t = xt at *
      generalize x.n = xn at *
      go_enter Tryz.func119, Tryz.ntmps119
      go_wp2_with (first
        | (go_at_call 145; refine HX.out.mono ?_; rintro e w3 ⟨rfl, hb3⟩; have HB3 := Lib.hid hb3; clear hb3)
        | fail)
      go_ret
      exact ⟨by rw [HE.out]; first | rfl | simp, HB2.out.trans (HB3.out.mono (by rw [Hz2.out]; omega))⟩
    · have HE : Hid (decide ((dep x : Int) ≤ d) = false) := Lib.hid (decide_eq_false (by
        have h : ¬ depL x.l ≤ 0 := fun h => by
          have hm : x.l[0]'(by omega) ∈ x.l := List.getElem_mem _
          have := (depL_le x.l 0).1 h _ hm
          omega
        rw [hE]; omega))
      clear hN hC hb1 hb2 hE hns hlen hq hz2 hl hn
      unfold rlA at *
      generalize decide ((dep x : Int) ≤ d) = r at *
      generalize x.l.length = xl at *
      generalize x.k = xk at *
      generalize x.p = xp at *
      generalize x.f = xf at *
      generalize x.t = xt at *
      generalize x.n = xn at *
      go_enter Tryz.func119, Tryz.ntmps119
      go_wp2
      go_ret
      exact ⟨by rw [HE.out]; rfl, HB2.out⟩
theorem within_fuel (N : Nat) : ∀ x, SizeOf.sizeOf x ≤ N → WithinSaid x := by
  induction N with
  | zero =>
    intro x h
    obtain ⟨k, p, f, t, n, l⟩ := x
    simp at h
  | succ N ih => intro x hN; exact within_step x fun y hy => ih y (by have := Rl.lt_mem hy; omega)
theorem within_any (x : Rl) : WithinSaid x := within_fuel _ x (Nat.le_refl _)

def DepthSaid (x : Rl) : Prop := ∀ (A : Option Addr) (c : Nat) (w : World) (B : Nat), NL w B A x.l → B ≤ w.heap.size → nsz x ≤ 1000 →
  Calls Tryz.prog 76 #[.agg (rlA x A c)] w fun e w' => e = .returned (.int .i64 (dep x : Int)) ∧ Below w.heap.size w w'
theorem depL_append (a b : List Rl) : depL (a ++ b) = max (depL a) (depL b) := by
  induction a with
  | nil => simp [depL]
  | cons x a ih => rw [List.cons_append, depL, depL, ih, Nat.max_assoc]
theorem depL_take (l : List Rl) (k : Nat) (h : k < l.length) : depL (l.take (k + 1)) = max (depL (l.take k)) (1 + dep l[k]) := by
  rw [← List.take_append_getElem h, depL_append, depL, depL]
  omega
theorem dep_nsz (N : Nat) : ∀ x, SizeOf.sizeOf x ≤ N → dep x < nsz x := by
  induction N with
  | zero =>
    intro x h
    obtain ⟨k, p, f, t, n, l⟩ := x
    simp at h
  | succ N ih =>
    intro x hN
    rw [dep_l, nsz_l]
    have h : depL x.l ≤ nszL x.l := (depL_le _ _).2 fun y hy => by
      have h1 := ih y (by have := Rl.lt_mem hy; omega)
      have h2 := nsz_mem x.l y hy
      omega
    omega
set_option maxHeartbeats 2000000 in
theorem depth_step (x : Rl) (hC : ∀ y ∈ x.l, DepthSaid y) : DepthSaid x := by
  intro A c w B hN hB hn
  have hb1 : Below w.heap.size w (w.alloc (.cells (rlA x A c) 33)) := (Below.refl _ _).alloc (Nat.le_refl _) _
  have hz1 : (w.alloc (.cells (rlA x A c) 33)).heap.size = w.heap.size + 1 := by simp
  have d5 : (w.alloc (.cells (rlA x A c) 33)).cell? ⟨w.heap.size, 5, none⟩ = some (.slice A x.l.length c) := by simp [rlA]
  have hns := nsz_l x
  have hlen : x.l.length ≤ 1000 := by have := len_nszL x.l; omega
  have HE := Lib.hid (dep_l x)
  have HB1 := Lib.hid hb1
  have HN := Lib.hid hN
  have HC : Hid (∀ y ∈ x.l, DepthSaid y ∧ nsz y ≤ 1000 ∧ dep y ≤ 1000) := Lib.hid (fun y hy => ⟨hC y hy, by have := nsz_mem x.l y hy; omega, by have := dep_nsz _ y (Nat.le_refl _); have := nsz_mem x.l y hy; omega⟩)
  clear hN hC hb1 hns hn
  unfold rlA at *
  generalize dep x = dx at *
  generalize x.l = X at *
  generalize x.k = xk at *
  generalize x.p = xp at *
  generalize x.f = xf at *
  generalize x.t = xt at *
  generalize x.n = xn at *
  go_enter Tryz.func76, Tryz.ntmps76
  go_wp2
  generalize (w.alloc (.cells #[.int .i64 xk, .int .i64 xp, .string xf, .string xt, .int .i64 xn, .slice A X.length c] 33)) = V at *
  go_loopw [3, 4] (fun v i wr => ∃ k : Nat, k ≤ X.length ∧ i = .int .i64 (k : Int) ∧ v = .int .i64 (depL (X.take k) : Int) ∧ depL (X.take k) ≤ 1001 ∧ Hid (Below (w.heap.size + 1) V wr)) (fun _ i _ => X.length - (RowKit.intOf i).toNat)
  case atStart => exact ⟨0, Nat.zero_le _, rfl, rfl, by simp [depL], Lib.hid (Below.refl _ _)⟩
  case round =>
    obtain ⟨k, hk, rfl, rfl, hd, HB⟩ := hrel
    have hz := HB.out.size
    have e5 : wr.cell? ⟨w.heap.size, 5, none⟩ = some (.slice A X.length c) := (HB.out.cell (p := ⟨w.heap.size, 5, none⟩) (by show w.heap.size < _; omega)).trans d5
    have HBw := Lib.hid (HB1.out.trans (HB.out.mono (by omega)))
    have hwz := HBw.out.size
    by_cases hlt : k < X.length
    · have b1 : (k : Int) < (X.length : Int) := by omega
      obtain ⟨g, off, A', c', rfl, hg, h6, hch⟩ := (HN.out.kept (HBw.out.mono hB)).at_ hlt
      obtain ⟨c0, c1, c2, c3, c4, c5⟩ := h6
      obtain ⟨hs, hs2, hs3⟩ := HC.out X[k] (List.getElem_mem hlt)
      have HCk := Lib.hid (hs A' c' wr B hch (by omega) hs2)
      have HT := Lib.hid (depL_take X k hlt)
      unfold rlA at HCk
      clear hs hch HC
      generalize X[k] = y at *
      generalize dep y = dy at *
      generalize y.l.length = yl at *
      generalize y.k = yk at *
      generalize y.p = yp at *
      generalize y.f = yf at *
      generalize y.t = yt at *
      generalize y.n = yn at *
      generalize hdk : depL (X.take k) = dk at *
      obtain ⟨m, hm⟩ : ∃ m, m = 1 + dy := ⟨_, rfl⟩
      have q : IntKind.i64.wrap (1 + (dy : Int)) = (m : Int) := by rw [wrap_i64 (by omega) (by omega)]; omega
      by_cases hlt2 : dk < m
      · have b2 : (dk : Int) < (m : Int) := by omega
        have Hm : Hid (depL (X.take (k + 1)) = m) := Lib.hid (by rw [HT.out]; omega)
        go_wp2_with (first
          | (go_at_call 76; refine HCk.out.mono ?_; rintro e w3 ⟨rfl, hb3⟩; have HB3 := Lib.hid (HB.out.trans (hb3.mono (by omega))); clear hb3)
          | fail)
        go_roundw
        case rel => exact ⟨k + 1, by omega, by go_num, by rw [Hm.out]; congr 1; omega, by rw [Hm.out]; omega, HB3⟩
        case measure => simp [RowKit.intOf]; omega
      · have b2 : ¬ (dk : Int) < (m : Int) := by omega
        have Hm : Hid (depL (X.take (k + 1)) = dk) := Lib.hid (by rw [HT.out]; omega)
        go_wp2_with (first
          | (go_at_call 76; refine HCk.out.mono ?_; rintro e w3 ⟨rfl, hb3⟩; have HB3 := Lib.hid (HB.out.trans (hb3.mono (by omega))); clear hb3)
          | fail)
        go_roundw
        case rel => exact ⟨k + 1, by omega, by go_num, by rw [Hm.out], by rw [Hm.out]; omega, HB3⟩
        case measure => simp [RowKit.intOf]; omega
    · have b1 : ¬ (k : Int) < (X.length : Int) := by omega
      have HK : Hid (X.take k = X) := Lib.hid (List.take_of_length_le (by omega))
      go_wp2
      go_ret
      exact ⟨by rw [HE.out, HK.out]; rfl, HBw.out⟩
theorem depth_fuel (N : Nat) : ∀ x, SizeOf.sizeOf x ≤ N → DepthSaid x := by
  induction N with
  | zero =>
    intro x h
    obtain ⟨k, p, f, t, n, l⟩ := x
    simp at h
  | succ N ih => intro x hN; exact depth_step x fun y hy => ih y (by have := Rl.lt_mem hy; omega)
theorem depth_any (x : Rl) : DepthSaid x := depth_fuel _ x (Nat.le_refl _)
end Go.Proofs.YtbkffdfboloogaaGreatDoor
namespace Go.Proofs.YtbkffdfboloogaaGreatDoor
open Go.RowKit Go.Maps Go.Lib
set_option linter.unusedVariables false
set_option maxRecDepth 100000

/-- what the function value does to what holds: the atoms given so far, and a world -/
structure Gives (g : Nat) (cap : Array Value) (B M : Nat) (P : Rl → Prop) (I : List Rl → World → Prop) : Prop where
  enters : ∀ args w, (callFunc g args).run Tryz.prog w = .ok (.enter g args) w
  low : ∀ done W, I done W → B ≤ W.heap.size
  old : ∀ done W W', I done W → Below W.heap.size W W' → I done W'
  give : ∀ (done : List Rl) (a : Rl) (A' : Option Addr) (c' : Nat) (W : World), P a → done.length < M → NL W B A' a.l → I done W →
    Calls Tryz.prog g (#[.agg (rlA a A' c')] ++ cap) W fun e w' => e = .returned (.tuple #[]) ∧ I (done ++ [a]) w' ∧ Below B W w'
def EachSaid (g : Nat) (cap : Array Value) (B M : Nat) (P : Rl → Prop) (I : List Rl → World → Prop) (x : Rl) : Prop :=
  ∀ (A : Option Addr) (c : Nat) (w : World) (done : List Rl), NL w B A x.l → x.l.length ≤ 1000000 → (∀ a ∈ atomsR x, P a) → done.length + (atomsR x).length ≤ M → I done w →
    Calls Tryz.prog 39 #[.agg (rlA x A c), .func (.func g) #[] cap] w fun e w' => e = .returned (.tuple #[]) ∧ I (done ++ atomsR x) w' ∧ Below B w w'
theorem atomsL_take_le (l : List Rl) : ∀ k, (atomsL (l.take k)).length ≤ (atomsL l).length := by
  induction l with
  | nil => intro k; simp
  | cons x l ih =>
    intro k
    match k with
    | 0 => simp [atomsL]
    | k + 1 =>
      have := ih k
      rw [List.take_succ_cons, atomsL, atomsL, List.length_append, List.length_append]
      omega
theorem atomB_no {k : Int} (h : atomB k = false) : ¬ k = 3 ∧ ¬ k = 4 ∧ ¬ k = 5 ∧ ¬ k = 6 ∧ ¬ k = 7 := by
  unfold atomB at h
  simp at h
  omega
set_option maxHeartbeats 4000000 in
theorem each_step (g : Nat) (cap : Array Value) (B M : Nat) (P : Rl → Prop) (I : List Rl → World → Prop) (hG : Gives g cap B M P I) (x : Rl) (hx : ∀ y ∈ x.l, y.l.length ≤ 1000000) (hC : ∀ y ∈ x.l, EachSaid g cap B M P I y) : EachSaid g cap B M P I x := by
  intro A c w done hN hl hP hM hI
  have eg := hG.enters
  unfold rlA
  have hB := hG.low _ _ hI
  have hb1 : Below w.heap.size w (w.alloc (.cells #[.int .i64 x.k, .int .i64 x.p, .string x.f, .string x.t, .int .i64 x.n, .slice A x.l.length c] 33)) := (Below.refl _ _).alloc (Nat.le_refl _) _
  have hs1 : (w.alloc (.cells #[.int .i64 x.k, .int .i64 x.p, .string x.f, .string x.t, .int .i64 x.n, .slice A x.l.length c] 33)).heap.size = w.heap.size + 1 := by simp
  have h6 : C6 (w.alloc (.cells #[.int .i64 x.k, .int .i64 x.p, .string x.f, .string x.t, .int .i64 x.n, .slice A x.l.length c] 33)) w.heap.size 0 x A c := ⟨by simp, by simp, by simp, by simp, by simp, by simp⟩
  have H6 : Hid (∀ W : World, Below (w.heap.size + 1) (w.alloc (.cells #[.int .i64 x.k, .int .i64 x.p, .string x.f, .string x.t, .int .i64 x.n, .slice A x.l.length c] 33)) W → (W.cell? ⟨w.heap.size, 0, none⟩ = some (.int .i64 x.k) ∧ W.cell? ⟨w.heap.size, 1, none⟩ = some (.int .i64 x.p) ∧ W.cell? ⟨w.heap.size, 2, none⟩ = some (.string x.f) ∧ W.cell? ⟨w.heap.size, 3, none⟩ = some (.string x.t) ∧ W.cell? ⟨w.heap.size, 4, none⟩ = some (.int .i64 x.n) ∧ W.cell? ⟨w.heap.size, 5, none⟩ = some (.slice A x.l.length c)) ∧ Hid (Below w.heap.size w W)) := Lib.hid (by
    intro W hb
    have k := h6.keep (w' := W) fun p hp => hb.cell (by rw [hp]; omega)
    exact ⟨⟨k.c0, k.c1, k.c2, k.c3, k.c4, k.c5⟩, Lib.hid (hb1.trans (hb.mono (by omega)))⟩)
  have HIA := Lib.hid (fun W => isAtom_any x.k x.p x.n x.f x.t A x.l.length c W)
  cases ha : atomB x.k with
  | true =>
    rw [ha] at HIA
    have HGv : Hid (∀ W : World, Below w.heap.size w W → Calls Tryz.prog g (#[.agg #[.int .i64 x.k, .int .i64 x.p, .string x.f, .string x.t, .int .i64 x.n, .slice A x.l.length c]] ++ cap) W fun e w' => e = .returned (.tuple #[]) ∧ I (done ++ atomsR x) w' ∧ Below B w w') := Lib.hid (fun W hb => by
      have := hG.give done x A c W (hP x (by rw [atoms_a x ha]; simp)) (by rw [atoms_a x ha] at hM; exact hM) (hN.kept (hb.mono hB)) (hG.old _ _ _ hI hb)
      rw [← atoms_a x ha] at this
      exact this.mono fun e w' h => ⟨h.1, h.2.1, (hb.mono hB).trans h.2.2⟩)
    have Hb1 := Lib.hid hb1
    clear hN hC hP hI hb1 h6 ha hx hG hl hM
    generalize atomsR x = aR at *
    generalize x.l.length = xl at *
    generalize x.k = xk at *
    generalize x.p = xp at *
    generalize x.f = xf at *
    generalize x.t = xt at *
    generalize x.n = xn at *
    obtain ⟨⟨d0, d1, d2, d3, d4, d5⟩, _⟩ := H6.out _ (Below.refl _ _)
    go_enter Tryz.func39, Tryz.ntmps39
    go_wp2_with (first
      | (go_at_call 65; refine (HIA.out _).mono ?_; rintro e w2 ⟨rfl, hb2⟩; rw [hs1] at hb2; clear d0 d1 d2 d3 d4 d5; obtain ⟨⟨d0, d1, d2, d3, d4, d5⟩, HBN⟩ := H6.out w2 hb2; clear hb2 HIA)
      | (go_at_fn g; refine (HGv.out _ HBN.out).mono ?_; rintro e w3 ⟨rfl, hI3, hb3⟩; have HI3 := Lib.hid hI3; have HB3 := Lib.hid hb3; clear hI3 hb3 HGv)
      | fail)
    refine bodyPost_end (results_none rfl _ _ _) rfl ?_
    exact ⟨rfl, HI3.out, HB3.out⟩
  | false =>
    rw [ha] at HIA
    obtain ⟨n3, n4, n5, n6, n7⟩ := atomB_no ha
    by_cases h2 : 0 ≤ x.k ∧ x.k ≤ 2
    · have HE := Lib.hid (atoms_l x h2)
      have HN := Lib.hid hN
      have HC := Lib.hid hC
      have HX := Lib.hid hx
      have HI := Lib.hid hI
      have HG := Lib.hid hG
      have HP : Hid (∀ y ∈ x.l, ∀ a ∈ atomsR y, P a) := Lib.hid (fun y hy a haa => hP a (by rw [atoms_l x h2]; exact mem_atomsL.2 ⟨y, hy, haa⟩))
      have hk : x.k = 0 ∨ x.k = 1 ∨ x.k = 2 := by omega
      have HM : Hid (done.length + (atomsL x.l).length ≤ M) := Lib.hid (by rw [atoms_l x h2] at hM; exact hM)
      clear hM hN hC hP hI hb1 h6 ha hx hG h2 n3 n4 n5 n6 n7
      generalize atomsR x = aR at *
      have hy : aR = atomsL x.l := HE.out
      subst hy
      generalize x.l = X at *
      generalize x.k = xk at *
      generalize x.p = xp at *
      generalize x.f = xf at *
      generalize x.t = xt at *
      generalize x.n = xn at *
      obtain ⟨⟨d0, d1, d2, d3, d4, d5⟩, _⟩ := H6.out _ (Below.refl _ _)
      rcases hk with rfl | rfl | rfl
      all_goals
        go_enter Tryz.func39, Tryz.ntmps39
        go_wp2_with (first
          | (go_at_call 65; refine (HIA.out _).mono ?_; rintro e w2 ⟨rfl, hb2⟩; rw [hs1] at hb2; clear d0 d1 d2 d3 d4 d5; obtain ⟨⟨d0, d1, d2, d3, d4, d5⟩, HBN⟩ := H6.out w2 hb2; clear hb2 HIA)
          | fail)
        clear d0 d1 d2 d3 d4 d5 H6
        have HI2 := Lib.hid (HG.out.old _ _ _ HI.out HBN.out)
        have HN2 := Lib.hid (HN.out.kept (HBN.out.mono hB))
        have HB2 : Hid (Below B w w2) := Lib.hid (HBN.out.mono hB)
        clear HI HN HBN
        go_loopw [29] (fun i wr => ∃ k : Nat, k ≤ X.length ∧ i = .int .i64 (k : Int) ∧ Hid (I (done ++ atomsL (X.take k)) wr) ∧ Hid (Below B w2 wr)) (fun i _ => X.length - (RowKit.intOf i).toNat)
        case atStart => exact ⟨0, Nat.zero_le _, rfl, Lib.hid (by rw [List.take_zero, atomsL, List.append_nil]; exact HI2.out), Lib.hid (Below.refl _ _)⟩
        case round =>
          obtain ⟨k, hk, rfl, HIk, HB⟩ := hrel
          by_cases hlt : k < X.length
          · have b1 : (k : Int) < (X.length : Int) := by omega
            obtain ⟨q, off, A', c', rfl, hq, h6, hch⟩ := (HN2.out.kept HB.out).at_ hlt
            have hBr := HG.out.low _ _ HIk.out
            have hqr : q < wr.heap.size := by omega
            obtain ⟨c0, c1, c2, c3, c4, c5⟩ := h6
            have HT := Lib.hid (atomsL_take X k hlt)
            have HXk : Hid (X[k].l.length ≤ 1000000) := Lib.hid (HX.out _ (List.getElem_mem hlt))
            have HCk : Hid (∀ W : World, Below wr.heap.size wr W → Calls Tryz.prog 39 #[.agg #[.int .i64 X[k].k, .int .i64 X[k].p, .string X[k].f, .string X[k].t, .int .i64 X[k].n, .slice A' X[k].l.length c'], .func (.func g) #[] cap] W fun e w' => e = .returned (.tuple #[]) ∧ I (done ++ atomsL (X.take k) ++ atomsR X[k]) w' ∧ Below B wr w') := Lib.hid (fun W hb =>
              (HC.out X[k] (List.getElem_mem hlt) A' c' W (done ++ atomsL (X.take k)) (hch.kept (hb.mono hBr)) HXk.out (HP.out _ (List.getElem_mem hlt)) (by have h1 := congrArg List.length HT.out; have h2 := atomsL_take_le X (k + 1); have h3 := HM.out; rw [List.length_append] at h1 ⊢; omega) (HG.out.old _ _ _ HIk.out hb)).mono fun e w' h => ⟨h.1, h.2.1, (hb.mono hBr).trans h.2.2⟩)
            have HBn : Hid (Below wr.heap.size wr (wr.alloc (.cells #[.int .i64 X[k].k, .int .i64 X[k].p, .string X[k].f, .string X[k].t, .int .i64 X[k].n, .slice A' X[k].l.length c'] 33))) := Lib.hid ((Below.refl _ _).alloc (Nat.le_refl _) _)
            clear hch HXk
            generalize X[k].l.length = yl at *
            generalize X[k].k = yk at *
            generalize X[k].p = yp at *
            generalize X[k].f = yf at *
            generalize X[k].t = yt at *
            generalize X[k].n = yn at *
            generalize atomsR X[k] = aY at *
            go_wp2_with (first
              | (go_at_call 39; refine (HCk.out _ (by first | exact HBn.out | assumption)).mono ?_; rintro e w3 ⟨rfl, hI3, hb3⟩; have HI3 := Lib.hid hI3; have HB3 := Lib.hid (HB.out.trans hb3); clear hI3 hb3 HCk)
              | fail)
            go_roundw
            case rel => exact ⟨k + 1, by omega, by go_num, Lib.hid (by rw [HT.out, ← List.append_assoc]; exact HI3.out), HB3⟩
            case measure => simp [RowKit.intOf]; omega
          · have b1 : ¬ (k : Int) < (X.length : Int) := by omega
            have HK : Hid (X.take k = X) := Lib.hid (List.take_of_length_le (by omega))
            rw [HK.out] at HIk
            go_wp2
            refine bodyPost_end (results_none rfl _ _ _) rfl ?_
            exact ⟨rfl, HIk.out, HB2.out.trans HB.out⟩
    · have HE := Lib.hid (atoms_o x ha h2)
      have HI2 : Hid (∀ W : World, Below w.heap.size w W → I (done ++ atomsR x) W ∧ Below B w W) := Lib.hid (fun W hb => by
        rw [HE.out, List.append_nil]
        exact ⟨hG.old _ _ _ hI hb, hb.mono hB⟩)
      have hk0 : (x.k == 0) = false := beq_false_of_ne (by omega)
      have hk1 : (x.k == 1) = false := beq_false_of_ne (by omega)
      have hk2 : (x.k == 2) = false := beq_false_of_ne (by omega)
      clear hN hC hP hI hb1 h6 ha hx hG h2 HE hl hM
      generalize atomsR x = aR at *
      generalize x.l.length = xl at *
      generalize x.k = xk at *
      generalize x.p = xp at *
      generalize x.f = xf at *
      generalize x.t = xt at *
      generalize x.n = xn at *
      obtain ⟨⟨d0, d1, d2, d3, d4, d5⟩, _⟩ := H6.out _ (Below.refl _ _)
      go_enter Tryz.func39, Tryz.ntmps39
      go_wp2_with (first
        | (go_at_call 65; refine (HIA.out _).mono ?_; rintro e w2 ⟨rfl, hb2⟩; rw [hs1] at hb2; clear d0 d1 d2 d3 d4 d5; obtain ⟨⟨d0, d1, d2, d3, d4, d5⟩, HBN⟩ := H6.out w2 hb2; clear hb2 HIA)
        | fail)
      refine bodyPost_end (results_none rfl _ _ _) rfl ?_
      exact ⟨rfl, HI2.out _ HBN.out⟩
theorem each_fuel (g : Nat) (cap : Array Value) (B M : Nat) (P : Rl → Prop) (I : List Rl → World → Prop) (hG : Gives g cap B M P I) (N : Nat) : ∀ x, SizeOf.sizeOf x ≤ N → nsz x ≤ 1000000 → EachSaid g cap B M P I x := by
  induction N with
  | zero =>
    intro x h
    obtain ⟨k, p, f, t, n, l⟩ := x
    simp at h
  | succ N ih =>
    intro x hN hn
    have hy : ∀ y ∈ x.l, nsz y ≤ 1000000 := fun y hy => by
      have h1 := nsz_l x
      have h2 : nsz y ≤ nszL x.l := nsz_mem x.l y hy
      omega
    refine each_step g cap B M P I hG x (fun y hy' => ?_) fun y hy' => ih y (by have := Rl.lt_mem hy'; omega) (hy y hy')
    have h1 := hy y hy'
    have h2 := nsz_l y
    have h3 := len_nszL y.l
    omega
theorem each_any (g : Nat) (cap : Array Value) (B M : Nat) (P : Rl → Prop) (I : List Rl → World → Prop) (hG : Gives g cap B M P I) (x : Rl) (hn : nsz x ≤ 1000000) : EachSaid g cap B M P I x := each_fuel g cap B M P I hG _ x (Nat.le_refl _) hn
end Go.Proofs.YtbkffdfboloogaaGreatDoor
namespace Go.Proofs.YtbkffdfboloogaaGreatDoor
open Go.RowKit Go.Maps Go.Lib
set_option linter.unusedVariables false
set_option maxRecDepth 100000

/-- its closure: is a need of the kind that the atom names? -/
theorem wanted_any (x : Nd) (A : Option Addr) (c b : Nat) (p : Int) (w : World) (hp : w.cell? ⟨b, 1, none⟩ = some (.int .i64 p)) :
    Calls Tryz.prog 72 #[.agg (ndA x A c), .pointer (some ⟨b, 0, none⟩)] w fun e w' => e = .returned (.bool (decide (x.k = p))) ∧ Below w.heap.size w w' := by
  unfold ndA
  have hb1 : Hid (Below w.heap.size w (w.alloc (.cells #[.int .i64 x.k, .int .i64 x.c, .int .i64 x.r.k, .int .i64 x.r.p, .string x.r.f, .string x.r.t, .int .i64 x.r.n, .slice A x.r.l.length c] 35))) := Lib.hid ((Below.refl _ _).alloc (Nat.le_refl _) _)
  have d1 : (w.alloc (.cells #[.int .i64 x.k, .int .i64 x.c, .int .i64 x.r.k, .int .i64 x.r.p, .string x.r.f, .string x.r.t, .int .i64 x.r.n, .slice A x.r.l.length c] 35)).cell? ⟨b, 1, none⟩ = some (.int .i64 p) := Lib.cell?_alloc_some _ hp
  have d0 : (w.alloc (.cells #[.int .i64 x.k, .int .i64 x.c, .int .i64 x.r.k, .int .i64 x.r.p, .string x.r.f, .string x.r.t, .int .i64 x.r.n, .slice A x.r.l.length c] 35)).cell? ⟨w.heap.size, 0, none⟩ = some (.int .i64 x.k) := by simp
  clear hp
  generalize x.r.l.length = xl at *
  generalize x.r.k = xk at *
  generalize x.r.p = xp at *
  generalize x.r.f = xf at *
  generalize x.r.t = xt at *
  generalize x.r.n = xn at *
  generalize x.k = yk at *
  generalize x.c = yc at *
  by_cases h : yk = p
  · subst h
    go_enter Tryz.func72, Tryz.ntmps72
    go_wp2
    go_ret
    exact ⟨by simp, hb1.out⟩
  · have hd : decide (yk = p) = false := decide_eq_false h
    have q : (yk == p) = false := beq_false_of_ne h
    rw [hd]
    clear h hd
    go_enter Tryz.func72, Tryz.ntmps72
    go_wp2
    go_ret
    exact ⟨rfl, hb1.out⟩
set_option maxHeartbeats 8000000 in
theorem wrong_any (c : Cr) (kd : Int) (a : Rl) (A A' : Option Addr) (cp c' B : Nat) (w : World) (hN : Ns w B A c.needs) (hB : B ≤ w.heap.size) (hl : c.needs.length ≤ 1000000) (hG : Gl w) (ht : a.t.size ≤ 4000000) :
    Calls Tryz.prog 41 #[.agg (crA c A cp), .int .i64 kd, .agg (rlA a A' c')] w fun e w' => e = .returned (.int .i64 (wrongB c.needs kd a)) ∧ Below w.heap.size w w' := by
  have hb1 : Below w.heap.size w (w.alloc (.cells (crA c A cp) 26)) := (Below.refl _ _).alloc (Nat.le_refl _) _
  have hs1 : (w.alloc (.cells (crA c A cp) 26)).heap.size = w.heap.size + 1 := by simp
  have k17 : (w.alloc (.cells (crA c A cp) 26)).cell? ⟨w.heap.size, 17, none⟩ = some (.slice A c.needs.length cp) := (C18.new w c A cp 26).c17
  unfold rlA
  have hb2 : Below w.heap.size w ((w.alloc (.cells (crA c A cp) 26)).alloc (.cells #[.int .i64 a.k, .int .i64 a.p, .string a.f, .string a.t, .int .i64 a.n, .slice A' a.l.length c'] 33)) := hb1.alloc (by omega) _
  have hs2 : ((w.alloc (.cells (crA c A cp) 26)).alloc (.cells #[.int .i64 a.k, .int .i64 a.p, .string a.f, .string a.t, .int .i64 a.n, .slice A' a.l.length c'] 33)).heap.size = w.heap.size + 2 := by simp
  have k17' : ((w.alloc (.cells (crA c A cp) 26)).alloc (.cells #[.int .i64 a.k, .int .i64 a.p, .string a.f, .string a.t, .int .i64 a.n, .slice A' a.l.length c'] 33)).cell? ⟨w.heap.size, 17, none⟩ = some (.slice A c.needs.length cp) := Lib.cell?_alloc_some _ k17
  have h6 : C6 ((w.alloc (.cells (crA c A cp) 26)).alloc (.cells #[.int .i64 a.k, .int .i64 a.p, .string a.f, .string a.t, .int .i64 a.n, .slice A' a.l.length c'] 33)) (w.heap.size + 1) 0 a A' c' := by
    have e : w.heap.size + 1 = (w.alloc (.cells (crA c A cp) 26)).heap.size := by simp
    rw [e]
    exact ⟨by simp, by simp, by simp, by simp, by simp, by simp⟩
  have HE : Hid (wrongB c.needs kd a = wr (inL (fieldsL kd) a.f) a.k (typeB a.f) (valB a.t (typeB a.f)).2 (c.needs.any fun x => decide (x.k = a.p)) (inL (fieldsL a.p) a.t) (typeB a.t)) := Lib.hid rfl
  have HF : Hid (∀ W : World, Below (w.heap.size + 2) ((w.alloc (.cells (crA c A cp) 26)).alloc (.cells #[.int .i64 a.k, .int .i64 a.p, .string a.f, .string a.t, .int .i64 a.n, .slice A' a.l.length c'] 33)) W → W.cell? ⟨w.heap.size, 17, none⟩ = some (.slice A c.needs.length cp) ∧ W.cell? ⟨w.heap.size + 1, 0, none⟩ = some (.int .i64 a.k) ∧ W.cell? ⟨w.heap.size + 1, 1, none⟩ = some (.int .i64 a.p) ∧ W.cell? ⟨w.heap.size + 1, 2, none⟩ = some (.string a.f) ∧ W.cell? ⟨w.heap.size + 1, 3, none⟩ = some (.string a.t)) := Lib.hid (fun W hb => ⟨(hb.cell (p := ⟨w.heap.size, 17, none⟩) (by show w.heap.size < _; omega)).trans k17', (hb.cell (p := ⟨w.heap.size + 1, 0, none⟩) (by show w.heap.size + 1 < _; omega)).trans h6.c0, (hb.cell (p := ⟨w.heap.size + 1, 1, none⟩) (by show w.heap.size + 1 < _; omega)).trans h6.c1, (hb.cell (p := ⟨w.heap.size + 1, 2, none⟩) (by show w.heap.size + 1 < _; omega)).trans h6.c2, (hb.cell (p := ⟨w.heap.size + 1, 3, none⟩) (by show w.heap.size + 1 < _; omega)).trans h6.c3⟩)
  have HBN : Hid (∀ W : World, Below (w.heap.size + 2) ((w.alloc (.cells (crA c A cp) 26)).alloc (.cells #[.int .i64 a.k, .int .i64 a.p, .string a.f, .string a.t, .int .i64 a.n, .slice A' a.l.length c'] 33)) W → Below w.heap.size w W) := Lib.hid (fun W hb => hb2.trans (hb.mono (by omega)))
  have HHas : Hid (∀ W : World, Calls Tryz.prog 37 #[.int .i64 kd, .string a.f] W fun e w' => e = .returned (.bool (inL (fieldsL kd) a.f)) ∧ Below W.heap.size W w') := Lib.hid (fun W => has_any kd a.f W)
  have HTy : Hid (∀ W : World, Calls Tryz.prog 15 #[.string a.f] W fun e w' => e = .returned (.int .i64 (typeB a.f)) ∧ Below W.heap.size W w') := Lib.hid (fun W => type_any a.f W)
  have HVal : Hid (∀ W : World, Below (w.heap.size + 2) ((w.alloc (.cells (crA c A cp) 26)).alloc (.cells #[.int .i64 a.k, .int .i64 a.p, .string a.f, .string a.t, .int .i64 a.n, .slice A' a.l.length c'] 33)) W → Calls Tryz.prog 13 #[.string a.t, .int .i64 (typeB a.f)] W fun e w' => e = .returned (.tuple #[.int .i64 (valB a.t (typeB a.f)).1, .bool (valB a.t (typeB a.f)).2]) ∧ Below W.heap.size W w') := Lib.hid (fun W hb => value_any a.t (typeB a.f) W (hG.below (HBN.out W hb)) ht)
  have HCon : Hid (∀ W : World, Below (w.heap.size + 2) ((w.alloc (.cells (crA c A cp) 26)).alloc (.cells #[.int .i64 a.k, .int .i64 a.p, .string a.f, .string a.t, .int .i64 a.n, .slice A' a.l.length c'] 33)) W → Calls Tryz.prog 73 #[.slice A c.needs.length cp, .func (.func 72) #[] #[.pointer (some ⟨w.heap.size + 1, 0, none⟩)]] W fun e w' => e = .returned (.bool (c.needs.any fun x => decide (x.k = a.p))) ∧ Below W.heap.size W w') := Lib.hid (fun W hb => by
    have hz := hb.size
    exact containsD_any 72 #[.pointer (some ⟨w.heap.size + 1, 0, none⟩)] (enters_of Tryz.func72 (by kernel_rfl) rfl) B cp A c.needs (fun x => decide (x.k = a.p)) W (hN.kept ((HBN.out W hb).mono hB)) (by omega) hl
      (fun W2 x A2 c2 _ _ hb3 => wanted_any x A2 c2 (w.heap.size + 1) a.p W2 (HF.out W2 (hb.trans (hb3.mono (by omega)))).2.2.1))
  have HHas2 : Hid (∀ W : World, Calls Tryz.prog 37 #[.int .i64 a.p, .string a.t] W fun e w' => e = .returned (.bool (inL (fieldsL a.p) a.t)) ∧ Below W.heap.size W w') := Lib.hid (fun W => has_any a.p a.t W)
  have HTy2 : Hid (∀ W : World, Calls Tryz.prog 15 #[.string a.t] W fun e w' => e = .returned (.int .i64 (typeB a.t)) ∧ Below W.heap.size W w') := Lib.hid (fun W => type_any a.t W)
  have Hb2 := Lib.hid hb2
  clear hb1 hs1 k17 k17' h6 hN hG ht hb2
  generalize wrongB c.needs kd a = wB at *
  generalize inL (fieldsL kd) a.f = h1 at *
  generalize (valB a.t (typeB a.f)).1 = vv at *
  generalize (valB a.t (typeB a.f)).2 = ok at *
  generalize (c.needs.any fun x => decide (x.k = a.p)) = an' at *
  generalize inL (fieldsL a.p) a.t = h2 at *
  generalize typeB a.f = t at *
  generalize typeB a.t = t2 at *
  generalize c.needs.length = nl at *
  generalize a.l.length = al at *
  generalize a.k = ak at *
  generalize a.p = ap at *
  generalize a.f = af at *
  generalize a.t = ax at *
  generalize a.n = an at *
  obtain ⟨d17, d0, d1, d2, d3⟩ := HF.out _ (Below.refl _ _)
  cases h1 with
  | false =>
    clear HTy HVal HCon HHas2 HTy2
    go_enter Tryz.func41, Tryz.ntmps41
    go_wp2_with (first
      | (go_at_call 37; with_reducible refine (HHas.out _).mono ?_; rintro e w3 ⟨rfl, hb3⟩; rw [hs2] at hb3; have HB3 := Lib.hid hb3; have hz3 : w.heap.size + 2 ≤ w3.heap.size := (by have := HB3.out.size; omega); clear d17 d0 d1 d2 d3; obtain ⟨d17, d0, d1, d2, d3⟩ := HF.out w3 HB3.out; clear hb3 HHas)
      | fail)
    go_ret
    exact ⟨by rw [HE.out, wr_no] <;> rfl, HBN.out _ HB3.out⟩
  | true =>
    by_cases k5 : ak = 5
    · subst k5
      clear HVal HCon HHas2 HTy2
      by_cases q : t = 0
      · have hq := wr_56 (k := 5) (ok := ok) (an := an') (h2 := h2) (t2 := t2) (.inl rfl) q
        subst q
        go_enter Tryz.func41, Tryz.ntmps41
        go_wp2_with (first
          | (go_at_call 37; with_reducible refine (HHas.out _).mono ?_; rintro e w3 ⟨rfl, hb3⟩; rw [hs2] at hb3; have HB3 := Lib.hid hb3; have hz3 : w.heap.size + 2 ≤ w3.heap.size := (by have := HB3.out.size; omega); clear d17 d0 d1 d2 d3; obtain ⟨d17, d0, d1, d2, d3⟩ := HF.out w3 HB3.out; clear hb3 HHas)
          | (go_at_call 15; with_reducible refine (HTy.out _).mono ?_; rintro e w4 ⟨rfl, hb4⟩; have HB4 := Lib.hid (HB3.out.trans (hb4.mono hz3)); have hz4 : w.heap.size + 2 ≤ w4.heap.size := (by have := HB4.out.size; omega); clear d17 d0 d1 d2 d3; obtain ⟨d17, d0, d1, d2, d3⟩ := HF.out w4 HB4.out; clear hb4 HTy)
          | fail)
        go_ret
        exact ⟨by rw [HE.out, hq] <;> rfl, HBN.out _ HB4.out⟩
      · have hq := wr_56n (k := 5) (ok := ok) (an := an') (h2 := h2) (t2 := t2) (.inl rfl) q
        have q' : (t == 0) = false := beq_false_of_ne q
        clear q
        go_enter Tryz.func41, Tryz.ntmps41
        go_wp2_with (first
          | (go_at_call 37; with_reducible refine (HHas.out _).mono ?_; rintro e w3 ⟨rfl, hb3⟩; rw [hs2] at hb3; have HB3 := Lib.hid hb3; have hz3 : w.heap.size + 2 ≤ w3.heap.size := (by have := HB3.out.size; omega); clear d17 d0 d1 d2 d3; obtain ⟨d17, d0, d1, d2, d3⟩ := HF.out w3 HB3.out; clear hb3 HHas)
          | (go_at_call 15; with_reducible refine (HTy.out _).mono ?_; rintro e w4 ⟨rfl, hb4⟩; have HB4 := Lib.hid (HB3.out.trans (hb4.mono hz3)); have hz4 : w.heap.size + 2 ≤ w4.heap.size := (by have := HB4.out.size; omega); clear d17 d0 d1 d2 d3; obtain ⟨d17, d0, d1, d2, d3⟩ := HF.out w4 HB4.out; clear hb4 HTy)
          | fail)
        go_ret
        exact ⟨by rw [HE.out, hq] <;> rfl, HBN.out _ HB4.out⟩
    by_cases k6 : ak = 6
    · subst k6
      clear HVal HCon HHas2 HTy2
      by_cases q : t = 0
      · have hq := wr_56 (k := 6) (ok := ok) (an := an') (h2 := h2) (t2 := t2) (.inr rfl) q
        subst q
        go_enter Tryz.func41, Tryz.ntmps41
        go_wp2_with (first
          | (go_at_call 37; with_reducible refine (HHas.out _).mono ?_; rintro e w3 ⟨rfl, hb3⟩; rw [hs2] at hb3; have HB3 := Lib.hid hb3; have hz3 : w.heap.size + 2 ≤ w3.heap.size := (by have := HB3.out.size; omega); clear d17 d0 d1 d2 d3; obtain ⟨d17, d0, d1, d2, d3⟩ := HF.out w3 HB3.out; clear hb3 HHas)
          | (go_at_call 15; with_reducible refine (HTy.out _).mono ?_; rintro e w4 ⟨rfl, hb4⟩; have HB4 := Lib.hid (HB3.out.trans (hb4.mono hz3)); have hz4 : w.heap.size + 2 ≤ w4.heap.size := (by have := HB4.out.size; omega); clear d17 d0 d1 d2 d3; obtain ⟨d17, d0, d1, d2, d3⟩ := HF.out w4 HB4.out; clear hb4 HTy)
          | fail)
        go_ret
        exact ⟨by rw [HE.out, hq] <;> rfl, HBN.out _ HB4.out⟩
      · have hq := wr_56n (k := 6) (ok := ok) (an := an') (h2 := h2) (t2 := t2) (.inr rfl) q
        have q' : (t == 0) = false := beq_false_of_ne q
        clear q
        go_enter Tryz.func41, Tryz.ntmps41
        go_wp2_with (first
          | (go_at_call 37; with_reducible refine (HHas.out _).mono ?_; rintro e w3 ⟨rfl, hb3⟩; rw [hs2] at hb3; have HB3 := Lib.hid hb3; have hz3 : w.heap.size + 2 ≤ w3.heap.size := (by have := HB3.out.size; omega); clear d17 d0 d1 d2 d3; obtain ⟨d17, d0, d1, d2, d3⟩ := HF.out w3 HB3.out; clear hb3 HHas)
          | (go_at_call 15; with_reducible refine (HTy.out _).mono ?_; rintro e w4 ⟨rfl, hb4⟩; have HB4 := Lib.hid (HB3.out.trans (hb4.mono hz3)); have hz4 : w.heap.size + 2 ≤ w4.heap.size := (by have := HB4.out.size; omega); clear d17 d0 d1 d2 d3; obtain ⟨d17, d0, d1, d2, d3⟩ := HF.out w4 HB4.out; clear hb4 HTy)
          | fail)
        go_ret
        exact ⟨by rw [HE.out, hq] <;> rfl, HBN.out _ HB4.out⟩
    by_cases k3 : ak = 3
    · subst k3
      clear HCon HHas2 HTy2
      by_cases q : t = 0
      · subst q
        go_enter Tryz.func41, Tryz.ntmps41
        go_wp2_with (first
          | (go_at_call 37; with_reducible refine (HHas.out _).mono ?_; rintro e w3 ⟨rfl, hb3⟩; rw [hs2] at hb3; have HB3 := Lib.hid hb3; have hz3 : w.heap.size + 2 ≤ w3.heap.size := (by have := HB3.out.size; omega); clear d17 d0 d1 d2 d3; obtain ⟨d17, d0, d1, d2, d3⟩ := HF.out w3 HB3.out; clear hb3 HHas)
          | (go_at_call 15; with_reducible refine (HTy.out _).mono ?_; rintro e w4 ⟨rfl, hb4⟩; have HB4 := Lib.hid (HB3.out.trans (hb4.mono hz3)); have hz4 : w.heap.size + 2 ≤ w4.heap.size := (by have := HB4.out.size; omega); clear d17 d0 d1 d2 d3; obtain ⟨d17, d0, d1, d2, d3⟩ := HF.out w4 HB4.out; clear hb4 HTy)
          | (go_at_call 13; with_reducible refine (HVal.out _ HB4.out).mono ?_; rintro e w5 ⟨rfl, hb5⟩; have HB5 := Lib.hid (HB4.out.trans (hb5.mono hz4)); have hz5 : w.heap.size + 2 ≤ w5.heap.size := (by have := HB5.out.size; omega); clear d17 d0 d1 d2 d3; obtain ⟨d17, d0, d1, d2, d3⟩ := HF.out w5 HB5.out; clear hb5 HVal)
          | fail)
        go_ret
        exact ⟨by rw [HE.out, wr_3z] <;> rfl, HBN.out _ HB5.out⟩
      · have q' : (t == 0) = false := beq_false_of_ne q
        cases ok with
        | false =>
          have hq := wr_3 (an := an') (h2 := h2) (t2 := t2) q
          go_enter Tryz.func41, Tryz.ntmps41
          go_wp2_with (first
            | (go_at_call 37; with_reducible refine (HHas.out _).mono ?_; rintro e w3 ⟨rfl, hb3⟩; rw [hs2] at hb3; have HB3 := Lib.hid hb3; have hz3 : w.heap.size + 2 ≤ w3.heap.size := (by have := HB3.out.size; omega); clear d17 d0 d1 d2 d3; obtain ⟨d17, d0, d1, d2, d3⟩ := HF.out w3 HB3.out; clear hb3 HHas)
            | (go_at_call 15; with_reducible refine (HTy.out _).mono ?_; rintro e w4 ⟨rfl, hb4⟩; have HB4 := Lib.hid (HB3.out.trans (hb4.mono hz3)); have hz4 : w.heap.size + 2 ≤ w4.heap.size := (by have := HB4.out.size; omega); clear d17 d0 d1 d2 d3; obtain ⟨d17, d0, d1, d2, d3⟩ := HF.out w4 HB4.out; clear hb4 HTy)
            | (go_at_call 13; with_reducible refine (HVal.out _ HB4.out).mono ?_; rintro e w5 ⟨rfl, hb5⟩; have HB5 := Lib.hid (HB4.out.trans (hb5.mono hz4)); have hz5 : w.heap.size + 2 ≤ w5.heap.size := (by have := HB5.out.size; omega); clear d17 d0 d1 d2 d3; obtain ⟨d17, d0, d1, d2, d3⟩ := HF.out w5 HB5.out; clear hb5 HVal)
            | fail)
          go_ret
          exact ⟨by rw [HE.out, hq] <;> rfl, HBN.out _ HB5.out⟩
        | true =>
          have hq := wr_3o (t := t) (an := an') (h2 := h2) (t2 := t2)
          go_enter Tryz.func41, Tryz.ntmps41
          go_wp2_with (first
            | (go_at_call 37; with_reducible refine (HHas.out _).mono ?_; rintro e w3 ⟨rfl, hb3⟩; rw [hs2] at hb3; have HB3 := Lib.hid hb3; have hz3 : w.heap.size + 2 ≤ w3.heap.size := (by have := HB3.out.size; omega); clear d17 d0 d1 d2 d3; obtain ⟨d17, d0, d1, d2, d3⟩ := HF.out w3 HB3.out; clear hb3 HHas)
            | (go_at_call 15; with_reducible refine (HTy.out _).mono ?_; rintro e w4 ⟨rfl, hb4⟩; have HB4 := Lib.hid (HB3.out.trans (hb4.mono hz3)); have hz4 : w.heap.size + 2 ≤ w4.heap.size := (by have := HB4.out.size; omega); clear d17 d0 d1 d2 d3; obtain ⟨d17, d0, d1, d2, d3⟩ := HF.out w4 HB4.out; clear hb4 HTy)
            | (go_at_call 13; with_reducible refine (HVal.out _ HB4.out).mono ?_; rintro e w5 ⟨rfl, hb5⟩; have HB5 := Lib.hid (HB4.out.trans (hb5.mono hz4)); have hz5 : w.heap.size + 2 ≤ w5.heap.size := (by have := HB5.out.size; omega); clear d17 d0 d1 d2 d3; obtain ⟨d17, d0, d1, d2, d3⟩ := HF.out w5 HB5.out; clear hb5 HVal)
            | fail)
          go_ret
          exact ⟨by rw [HE.out, hq] <;> rfl, HBN.out _ HB5.out⟩
    by_cases k7 : ak = 7
    · subst k7
      clear HVal
      cases an' with
      | false =>
        have hq := wr_7a (t := t) (ok := ok) (h2 := h2) (t2 := t2)
        clear HHas2 HTy2
        go_enter Tryz.func41, Tryz.ntmps41
        go_wp2_with (first
          | (go_at_call 37; with_reducible refine (HHas.out _).mono ?_; rintro e w3 ⟨rfl, hb3⟩; rw [hs2] at hb3; have HB3 := Lib.hid hb3; have hz3 : w.heap.size + 2 ≤ w3.heap.size := (by have := HB3.out.size; omega); clear d17 d0 d1 d2 d3; obtain ⟨d17, d0, d1, d2, d3⟩ := HF.out w3 HB3.out; clear hb3 HHas)
          | (go_at_call 15; with_reducible refine (HTy.out _).mono ?_; rintro e w4 ⟨rfl, hb4⟩; have HB4 := Lib.hid (HB3.out.trans (hb4.mono hz3)); have hz4 : w.heap.size + 2 ≤ w4.heap.size := (by have := HB4.out.size; omega); clear d17 d0 d1 d2 d3; obtain ⟨d17, d0, d1, d2, d3⟩ := HF.out w4 HB4.out; clear hb4 HTy)
          | (go_at_call 73; with_reducible refine (HCon.out _ HB4.out).mono ?_; rintro e w5 ⟨rfl, hb5⟩; have HB5 := Lib.hid (HB4.out.trans (hb5.mono hz4)); have hz5 : w.heap.size + 2 ≤ w5.heap.size := (by have := HB5.out.size; omega); clear d17 d0 d1 d2 d3; obtain ⟨d17, d0, d1, d2, d3⟩ := HF.out w5 HB5.out; clear hb5 HCon)
          | fail)
        go_ret
        exact ⟨by rw [HE.out, hq] <;> rfl, HBN.out _ HB5.out⟩
      | true =>
        cases h2 with
        | false =>
          have hq := wr_7h (t := t) (ok := ok) (an := true) (t2 := t2)
          clear HTy2
          go_enter Tryz.func41, Tryz.ntmps41
          go_wp2_with (first
            | (go_at_call 37; with_reducible refine (HHas.out _).mono ?_; rintro e w3 ⟨rfl, hb3⟩; rw [hs2] at hb3; have HB3 := Lib.hid hb3; have hz3 : w.heap.size + 2 ≤ w3.heap.size := (by have := HB3.out.size; omega); clear d17 d0 d1 d2 d3; obtain ⟨d17, d0, d1, d2, d3⟩ := HF.out w3 HB3.out; clear hb3 HHas)
            | (go_at_call 15; with_reducible refine (HTy.out _).mono ?_; rintro e w4 ⟨rfl, hb4⟩; have HB4 := Lib.hid (HB3.out.trans (hb4.mono hz3)); have hz4 : w.heap.size + 2 ≤ w4.heap.size := (by have := HB4.out.size; omega); clear d17 d0 d1 d2 d3; obtain ⟨d17, d0, d1, d2, d3⟩ := HF.out w4 HB4.out; clear hb4 HTy)
            | (go_at_call 73; with_reducible refine (HCon.out _ HB4.out).mono ?_; rintro e w5 ⟨rfl, hb5⟩; have HB5 := Lib.hid (HB4.out.trans (hb5.mono hz4)); have hz5 : w.heap.size + 2 ≤ w5.heap.size := (by have := HB5.out.size; omega); clear d17 d0 d1 d2 d3; obtain ⟨d17, d0, d1, d2, d3⟩ := HF.out w5 HB5.out; clear hb5 HCon)
            | (go_at_call 37; with_reducible refine (HHas2.out _).mono ?_; rintro e w6 ⟨rfl, hb6⟩; have HB6 := Lib.hid (HB5.out.trans (hb6.mono hz5)); have hz6 : w.heap.size + 2 ≤ w6.heap.size := (by have := HB6.out.size; omega); clear d17 d0 d1 d2 d3; obtain ⟨d17, d0, d1, d2, d3⟩ := HF.out w6 HB6.out; clear hb6 HHas2)
            | fail)
          go_ret
          exact ⟨by rw [HE.out, hq] <;> rfl, HBN.out _ HB6.out⟩
        | true =>
          by_cases q : t2 = t
          · subst q
            have hq := wr_7e (t := t2) (ok := ok)
            go_enter Tryz.func41, Tryz.ntmps41
            go_wp2_with (first
              | (go_at_call 37; with_reducible refine (HHas.out _).mono ?_; rintro e w3 ⟨rfl, hb3⟩; rw [hs2] at hb3; have HB3 := Lib.hid hb3; have hz3 : w.heap.size + 2 ≤ w3.heap.size := (by have := HB3.out.size; omega); clear d17 d0 d1 d2 d3; obtain ⟨d17, d0, d1, d2, d3⟩ := HF.out w3 HB3.out; clear hb3 HHas)
              | (go_at_call 15; with_reducible refine (HTy.out _).mono ?_; rintro e w4 ⟨rfl, hb4⟩; have HB4 := Lib.hid (HB3.out.trans (hb4.mono hz3)); have hz4 : w.heap.size + 2 ≤ w4.heap.size := (by have := HB4.out.size; omega); clear d17 d0 d1 d2 d3; obtain ⟨d17, d0, d1, d2, d3⟩ := HF.out w4 HB4.out; clear hb4 HTy)
              | (go_at_call 73; with_reducible refine (HCon.out _ HB4.out).mono ?_; rintro e w5 ⟨rfl, hb5⟩; have HB5 := Lib.hid (HB4.out.trans (hb5.mono hz4)); have hz5 : w.heap.size + 2 ≤ w5.heap.size := (by have := HB5.out.size; omega); clear d17 d0 d1 d2 d3; obtain ⟨d17, d0, d1, d2, d3⟩ := HF.out w5 HB5.out; clear hb5 HCon)
              | (go_at_call 37; with_reducible refine (HHas2.out _).mono ?_; rintro e w6 ⟨rfl, hb6⟩; have HB6 := Lib.hid (HB5.out.trans (hb6.mono hz5)); have hz6 : w.heap.size + 2 ≤ w6.heap.size := (by have := HB6.out.size; omega); clear d17 d0 d1 d2 d3; obtain ⟨d17, d0, d1, d2, d3⟩ := HF.out w6 HB6.out; clear hb6 HHas2)
              | (go_at_call 15; with_reducible refine (HTy2.out _).mono ?_; rintro e w7 ⟨rfl, hb7⟩; have HB7 := Lib.hid (HB6.out.trans (hb7.mono hz6)); have hz7 : w.heap.size + 2 ≤ w7.heap.size := (by have := HB7.out.size; omega); clear d17 d0 d1 d2 d3; obtain ⟨d17, d0, d1, d2, d3⟩ := HF.out w7 HB7.out; clear hb7 HTy2)
              | fail)
            go_ret
            exact ⟨by rw [HE.out, hq] <;> rfl, HBN.out _ HB7.out⟩
          · have hq := wr_7 (ok := ok) q
            have q' : (t2 == t) = false := beq_false_of_ne q
            clear q
            go_enter Tryz.func41, Tryz.ntmps41
            go_wp2_with (first
              | (go_at_call 37; with_reducible refine (HHas.out _).mono ?_; rintro e w3 ⟨rfl, hb3⟩; rw [hs2] at hb3; have HB3 := Lib.hid hb3; have hz3 : w.heap.size + 2 ≤ w3.heap.size := (by have := HB3.out.size; omega); clear d17 d0 d1 d2 d3; obtain ⟨d17, d0, d1, d2, d3⟩ := HF.out w3 HB3.out; clear hb3 HHas)
              | (go_at_call 15; with_reducible refine (HTy.out _).mono ?_; rintro e w4 ⟨rfl, hb4⟩; have HB4 := Lib.hid (HB3.out.trans (hb4.mono hz3)); have hz4 : w.heap.size + 2 ≤ w4.heap.size := (by have := HB4.out.size; omega); clear d17 d0 d1 d2 d3; obtain ⟨d17, d0, d1, d2, d3⟩ := HF.out w4 HB4.out; clear hb4 HTy)
              | (go_at_call 73; with_reducible refine (HCon.out _ HB4.out).mono ?_; rintro e w5 ⟨rfl, hb5⟩; have HB5 := Lib.hid (HB4.out.trans (hb5.mono hz4)); have hz5 : w.heap.size + 2 ≤ w5.heap.size := (by have := HB5.out.size; omega); clear d17 d0 d1 d2 d3; obtain ⟨d17, d0, d1, d2, d3⟩ := HF.out w5 HB5.out; clear hb5 HCon)
              | (go_at_call 37; with_reducible refine (HHas2.out _).mono ?_; rintro e w6 ⟨rfl, hb6⟩; have HB6 := Lib.hid (HB5.out.trans (hb6.mono hz5)); have hz6 : w.heap.size + 2 ≤ w6.heap.size := (by have := HB6.out.size; omega); clear d17 d0 d1 d2 d3; obtain ⟨d17, d0, d1, d2, d3⟩ := HF.out w6 HB6.out; clear hb6 HHas2)
              | (go_at_call 15; with_reducible refine (HTy2.out _).mono ?_; rintro e w7 ⟨rfl, hb7⟩; have HB7 := Lib.hid (HB6.out.trans (hb7.mono hz6)); have hz7 : w.heap.size + 2 ≤ w7.heap.size := (by have := HB7.out.size; omega); clear d17 d0 d1 d2 d3; obtain ⟨d17, d0, d1, d2, d3⟩ := HF.out w7 HB7.out; clear hb7 HTy2)
              | fail)
            go_ret
            exact ⟨by rw [HE.out, hq] <;> rfl, HBN.out _ HB7.out⟩
    have hq := wr_o (t := t) (ok := ok) (an := an') (h2 := h2) (t2 := t2) k5 k6 k3 k7
    have q5 : (ak == 5) = false := beq_false_of_ne k5
    have q6 : (ak == 6) = false := beq_false_of_ne k6
    have q3 : (ak == 3) = false := beq_false_of_ne k3
    have q7 : (ak == 7) = false := beq_false_of_ne k7
    clear k3 k5 k6 k7
    clear HVal HCon HHas2 HTy2
    go_enter Tryz.func41, Tryz.ntmps41
    go_wp2_with (first
      | (go_at_call 37; with_reducible refine (HHas.out _).mono ?_; rintro e w3 ⟨rfl, hb3⟩; rw [hs2] at hb3; have HB3 := Lib.hid hb3; have hz3 : w.heap.size + 2 ≤ w3.heap.size := (by have := HB3.out.size; omega); clear d17 d0 d1 d2 d3; obtain ⟨d17, d0, d1, d2, d3⟩ := HF.out w3 HB3.out; clear hb3 HHas)
      | (go_at_call 15; with_reducible refine (HTy.out _).mono ?_; rintro e w4 ⟨rfl, hb4⟩; have HB4 := Lib.hid (HB3.out.trans (hb4.mono hz3)); have hz4 : w.heap.size + 2 ≤ w4.heap.size := (by have := HB4.out.size; omega); clear d17 d0 d1 d2 d3; obtain ⟨d17, d0, d1, d2, d3⟩ := HF.out w4 HB4.out; clear hb4 HTy)
      | fail)
    go_ret
    exact ⟨by rw [HE.out, hq] <;> rfl, HBN.out _ HB4.out⟩
end Go.Proofs.YtbkffdfboloogaaGreatDoor
