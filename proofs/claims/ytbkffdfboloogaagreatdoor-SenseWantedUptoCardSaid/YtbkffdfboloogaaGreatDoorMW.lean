/- sense.Check's closure for sense.each: what is wrong with an atom is told. sense.Check: what stands while the needs are looked at. -/
import Derived.Test.YtbkffdfboloogaaGreatDoorMV
import Derived.Test.YtbkffdfboloogaaGreatDoorMQ
import Derived.Test.YtbkffdfboloogaaGreatDoorMS
import Derived.Laws.Rows
namespace Go.Proofs.YtbkffdfboloogaaGreatDoor
open Go.RowKit Go.Maps Go.Lib
set_option linter.unusedVariables false
set_option maxRecDepth 100000

theorem infoCrT : (Tryz.prog.info? 26).map (·.size) = some 18 := by kernel_rfl
theorem crA_sizeT (c : Cr) (A : Option Addr) (cp : Nat) : (Tryz.prog.info? 26).map (·.size) = some (crA c A cp).size := infoCrT
/-- the atoms given so far, and what has been told of them -/
def Hold (c : Cr) (kd : Int) (F0 : Prop) (K base tb fb mb : Nat) (v0 : Value) (w0 : World) (done : List Rl) (W : World) : Prop :=
  ∃ n v G L, Fs W base tb fb mb n v G L ∧ Fg fb mb v0 v w0 W ∧ (L ≠ [] ↔ (F0 ∨ WrongAt c kd done)) ∧ L.length ≤ K + done.length ∧ n ≤ K + done.length
theorem Hold.old {c : Cr} {kd : Int} {F0 : Prop} {K base tb fb mb : Nat} {v0 : Value} {w0 W W' : World} {done : List Rl} (h : Hold c kd F0 K base tb fb mb v0 w0 done W) (hb : Below W.heap.size W W') : Hold c kd F0 K base tb fb mb v0 w0 done W' := by
  obtain ⟨n, v, G, L, h1, h2, h3⟩ := h
  exact ⟨n, v, G, L, h1.below hb, h2.trans (Fg.of_below hb), h3⟩
/-- a block that stands while faults are told -/
def Apart (fb mb : Nat) (v0 : Value) (w0 : World) (q : Nat) : Prop := q < w0.heap.size ∧ q ≠ fb ∧ q ≠ mb ∧ v0.ownBlock ≠ some q
theorem Apart.blk {fb mb q : Nat} {v0 v : Value} {w0 W : World} (h : Apart fb mb v0 w0 q) (hg : Fg fb mb v0 v w0 W) : W.heap[q]? = w0.heap[q]? := hg.block q h.1 h.2.1 h.2.2.1 h.2.2.2
theorem Apart.cel {fb mb q j : Nat} {v0 v : Value} {w0 W : World} (h : Apart fb mb v0 w0 q) (hg : Fg fb mb v0 v w0 W) : W.cell? ⟨q, j, none⟩ = w0.cell? ⟨q, j, none⟩ := World.cell?_of_block (h.blk hg)
/-- what the closure has caught -/
structure Caught (c : Cr) (x : Nd) (i : Nat) (A : Option Addr) (cp bc bn bt bi tb fb mb : Nat) (v0 : Value) (w0 : World) : Prop where
  hc : w0.heap[bc]? = some (.cells (crA c A cp) 26 (0, 0))
  hn : w0.cell? ⟨bn, 0, none⟩ = some (.int .i64 x.k)
  ht : w0.cell? ⟨bt, 0, none⟩ = some (.func (.func 38) #[] #[.pointer (some ⟨tb, 0, none⟩), .pointer (some ⟨fb, 0, none⟩)])
  hi : w0.cell? ⟨bi, 0, none⟩ = some (.int .i64 (i : Int))
  ac : Apart fb mb v0 w0 bc
  an : Apart fb mb v0 w0 bn
  at_ : Apart fb mb v0 w0 bt
  ai : Apart fb mb v0 w0 bi
theorem told_hold {c : Cr} {kd : Int} {F0 : Prop} {K base tb fb mb n : Nat} {v0 v : Value} {w0 w w' : World} {done : List Rl} {L : List Ft} (a : Rl) (hT : Told base tb fb mb n v L w w') (hg : Fg fb mb v0 v w0 w) (hL : L.length ≤ K + done.length) (hn : n ≤ K + done.length) (ha : wrongB c.needs kd a ≠ 0) :
    Hold c kd F0 K base tb fb mb v0 w0 (done ++ [a]) w' := by
  obtain ⟨n', v', G', L', h1, h2, h3, h4, h5⟩ := hT
  refine ⟨n', v', G', L', h1, hg.trans h5, ⟨fun _ => .inr ((wrong_snoc c kd done a).2 (.inr ha)), fun _ => h2⟩, ?_, ?_⟩ <;> rw [List.length_append] <;> simp <;> omega
theorem same_hold {c : Cr} {kd : Int} {F0 : Prop} {K base tb fb mb : Nat} {v0 : Value} {w0 w : World} {done : List Rl} (a : Rl) (h : Hold c kd F0 K base tb fb mb v0 w0 done w) (ha : wrongB c.needs kd a = 0) : Hold c kd F0 K base tb fb mb v0 w0 (done ++ [a]) w := by
  obtain ⟨n, v, G, L, h1, h2, h3, h4, h5⟩ := h
  refine ⟨n, v, G, L, h1, h2, ?_, ?_, ?_⟩
  · rw [h3, wrong_snoc]
    constructor
    · rintro (h | h)
      · exact .inl h
      · exact .inr (.inl h)
    · rintro (h | h | h)
      · exact .inl h
      · exact .inr h
      · exact absurd ha h
  all_goals rw [List.length_append]; omega
set_option maxHeartbeats 8000000 in
theorem check2_any (c : Cr) (x : Nd) (i : Nat) (A : Option Addr) (cp bc bn bt bi base tb fb mb K B M : Nat) (v0 : Value) (w0 : World) (F0 : Prop) (hK : Caught c x i A cp bc bn bt bi tb fb mb v0 w0)
    (hB : 8 ≤ B ∧ B ≤ fb ∧ B ≤ mb ∧ B ≤ base ∧ B ≤ w0.heap.size) (hv : ∀ q, v0.ownBlock = some q → B ≤ q) (hN : Ns w0 B A c.needs) (hl : c.needs.length ≤ 1000000) (hG : Gl w0) (hx : -9223372036854775808 ≤ x.k ∧ x.k ≤ 9223372036854775807) (hi : i ≤ 1000000) (hM : K + M ≤ 100000)
    (done : List Rl) (a : Rl) (A' : Option Addr) (c' : Nat) (W : World) (hf : Fits a) (hd : done.length < M) (hI : Hold c x.k F0 K base tb fb mb v0 w0 done W) :
    Calls Tryz.prog 40 #[.agg (rlA a A' c'), .pointer (some ⟨bc, 0, none⟩), .pointer (some ⟨bn, 0, none⟩), .pointer (some ⟨bt, 0, none⟩), .pointer (some ⟨bi, 0, none⟩)] W fun e w' => e = .returned (.tuple #[]) ∧ Hold c x.k F0 K base tb fb mb v0 w0 (done ++ [a]) w' ∧ Below B W w' := by
  obtain ⟨n, v, G, L, hS, hg, hE, hLn, hnn⟩ := hI
  obtain ⟨hB8, hBf, hBm, hBb, hBw⟩ := hB
  have hvW : ∀ q, v.ownBlock = some q → B ≤ q := fun q hq => by have := (hS.own hq).1; omega
  have hbW : Below B w0 W := hg.below hBw hBf hBm hv
  have hBW : B ≤ W.heap.size := by have := hS.lo.2.2.2.2; omega
  unfold rlA
  have hb1 : Below W.heap.size W (W.alloc (.cells #[.int .i64 a.k, .int .i64 a.p, .string a.f, .string a.t, .int .i64 a.n, .slice A' a.l.length c'] 33)) := (Below.refl _ _).alloc (Nat.le_refl _) _
  have hs1 : (W.alloc (.cells #[.int .i64 a.k, .int .i64 a.p, .string a.f, .string a.t, .int .i64 a.n, .slice A' a.l.length c'] 33)).heap.size = W.heap.size + 1 := by simp
  have h6 : C6 (W.alloc (.cells #[.int .i64 a.k, .int .i64 a.p, .string a.f, .string a.t, .int .i64 a.n, .slice A' a.l.length c'] 33)) W.heap.size 0 a A' c' := ⟨by simp, by simp, by simp, by simp, by simp, by simp⟩
  have hWsz := hg.size
  have lc := hK.ac.1
  have ln := hK.an.1
  have lt := hK.at_.1
  have li := hK.ai.1
  have cl : ∀ (q j : Nat) (u : Value) (V : World), Below W.heap.size W V → Apart fb mb v0 w0 q → w0.cell? ⟨q, j, none⟩ = some u → V.cell? ⟨q, j, none⟩ = some u := fun q j u V hb ha hu => (hb.cell (p := ⟨q, j, none⟩) (by show q < _; have := ha.1; omega)).trans ((ha.cel hg).trans hu)
  have HF : Hid (∀ V : World, Below (W.heap.size + 1) (W.alloc (.cells #[.int .i64 a.k, .int .i64 a.p, .string a.f, .string a.t, .int .i64 a.n, .slice A' a.l.length c'] 33)) V → Hid (Below W.heap.size W V) ∧ V.heap[bc]? = some (.cells (crA c A cp) 26 (0, 0)) ∧ V.cell? ⟨bn, 0, none⟩ = some (.int .i64 x.k) ∧ V.cell? ⟨bt, 0, none⟩ = some (.func (.func 38) #[] #[.pointer (some ⟨tb, 0, none⟩), .pointer (some ⟨fb, 0, none⟩)]) ∧ V.cell? ⟨bi, 0, none⟩ = some (.int .i64 (i : Int)) ∧
      V.cell? ⟨W.heap.size, 0, none⟩ = some (.int .i64 a.k) ∧ V.cell? ⟨W.heap.size, 1, none⟩ = some (.int .i64 a.p) ∧ V.cell? ⟨W.heap.size, 2, none⟩ = some (.string a.f) ∧ V.cell? ⟨W.heap.size, 3, none⟩ = some (.string a.t) ∧ V.cell? ⟨W.heap.size, 4, none⟩ = some (.int .i64 a.n) ∧ V.cell? ⟨W.heap.size, 5, none⟩ = some (.slice A' a.l.length c')) := Lib.hid (fun V hb => by
    have hbV := hb1.trans (hb.mono (by omega))
    have k := h6.keep (w' := V) fun p hp => hb.cell (by rw [hp]; omega)
    exact ⟨Lib.hid hbV, (hbV.block bc (by omega)).trans ((hK.ac.blk hg).trans hK.hc), cl _ _ _ V hbV hK.an hK.hn, cl _ _ _ V hbV hK.at_ hK.ht, cl _ _ _ V hbV hK.ai hK.hi, k.c0, k.c1, k.c2, k.c3, k.c4, k.c5⟩)
  have HW : Hid (Calls Tryz.prog 41 #[.agg (crA c A cp), .int .i64 x.k, .agg #[.int .i64 a.k, .int .i64 a.p, .string a.f, .string a.t, .int .i64 a.n, .slice A' a.l.length c']] (W.alloc (.cells #[.int .i64 a.k, .int .i64 a.p, .string a.f, .string a.t, .int .i64 a.n, .slice A' a.l.length c'] 33)) fun e w' => e = .returned (.int .i64 (wrongB c.needs x.k a)) ∧ Below (W.heap.size + 1) (W.alloc (.cells #[.int .i64 a.k, .int .i64 a.p, .string a.f, .string a.t, .int .i64 a.n, .slice A' a.l.length c'] 33)) w') := Lib.hid (by
    have h := wrong_any c x.k a A A' cp c' B (W.alloc (.cells #[.int .i64 a.k, .int .i64 a.p, .string a.f, .string a.t, .int .i64 a.n, .slice A' a.l.length c'] 33)) (hN.kept (hbW.trans (hb1.mono hBW))) (by omega) hl (hG.low (hbW.trans (hb1.mono hBW)) hB8) hf.2.1
    rw [hs1] at h
    exact h)
  have hrg := wrong_range c.needs x.k a
  have HT : Hid (wrongB c.needs x.k a ≠ 0 → ∀ V : World, Below W.heap.size W V → Calls Tryz.prog 38 #[.agg #[.int .i64 (i : Int), .int .i64 x.k, .string a.f, .int .i64 (wrongB c.needs x.k a)], .pointer (some ⟨tb, 0, none⟩), .pointer (some ⟨fb, 0, none⟩)] V fun e w' => e = .returned (.tuple #[]) ∧ Hold c x.k F0 K base tb fb mb v0 w0 (done ++ [a]) w' ∧ Below B W w') := Lib.hid (fun hne V hb =>
    (tell_any V base tb fb mb n v G L ((i : Int), x.k, a.f, wrongB c.needs x.k a) ⟨wfK (a := (i : Int)) (by omega) (by omega), wfK hx.1 hx.2, by have := hf.1; show a.f.size ≤ maxLen; unfold maxLen; omega, wfK (a := wrongB c.needs x.k a) (by omega) (by omega)⟩ (hS.below hb) (by omega) (by omega)).mono fun e w' h => ⟨h.1, told_hold a h.2 (hg.trans (Fg.of_below hb)) hLn hnn hne, by
      obtain ⟨n', v', G', L', h1, h2, h3, h4, h5⟩ := h.2
      exact (hb.mono hBW).trans (h5.below (by have := hb.size; omega) hBf hBm hvW)⟩)
  have HZ : Hid (wrongB c.needs x.k a = 0 → ∀ V : World, Below W.heap.size W V → Hold c x.k F0 K base tb fb mb v0 w0 (done ++ [a]) V ∧ Below B W V) := Lib.hid (fun hz V hb => ⟨same_hold a (Hold.old ⟨n, v, G, L, hS, hg, hE, hLn, hnn⟩ hb) hz, hb.mono hBW⟩)
  have HI := Lib.hid (crA_sizeT c A cp)
  clear hS hg hE hLn hnn hvW hbW hBW hb1 hs1 h6 hWsz lc ln lt li cl hK hv hN hG hf hd hBf hBm hBb hBw
  generalize wrongB c.needs x.k a = wv at *
  generalize Hold c x.k F0 K base tb fb mb v0 w0 (done ++ [a]) = HO at *
  generalize x.k = xk at *
  generalize a.l.length = al at *
  generalize a.k = ak at *
  generalize a.p = ap at *
  generalize a.f = af at *
  generalize a.t = ax at *
  generalize a.n = an at *
  obtain ⟨_, hbc, kn, kt, ki, d0, d1, d2, d3, d4, d5⟩ := HF.out _ (Below.refl _ _)
  by_cases hz : wv = 0
  · have HZ2 := Lib.hid (HZ.out hz)
    subst hz
    clear HT HZ hrg
    go_enter Tryz.func40, Tryz.ntmps40
    go_wp2_with (first
      | (refine wpList_load_row rfl 26 (.tmp 1) rfl bc rfl 26 (crA c A cp) (0, 0) _ hbc Tryz.underlying26 rfl HI.out ?_)
      | (go_at_call 41; with_reducible refine HW.out.mono ?_; rintro e w2 ⟨rfl, hb2⟩; clear kn kt ki d0 d1 d2 d3 d4 d5; obtain ⟨HB2, hbc2, kn, kt, ki, d0, d1, d2, d3, d4, d5⟩ := HF.out w2 hb2; clear hb2 HW)
      | fail)
    refine bodyPost_end (results_none rfl _ _ _) rfl ?_
    exact ⟨rfl, HZ2.out _ HB2.out⟩
  · have HT2 := Lib.hid (HT.out hz)
    have q : (wv == 0) = false := beq_false_of_ne hz
    clear HT HZ hrg hz
    go_enter Tryz.func40, Tryz.ntmps40
    go_wp2_with (first
      | (refine wpList_load_row rfl 26 (.tmp 1) rfl bc rfl 26 (crA c A cp) (0, 0) _ hbc Tryz.underlying26 rfl HI.out ?_)
      | (go_at_call 41; with_reducible refine HW.out.mono ?_; rintro e w2 ⟨rfl, hb2⟩; clear kn kt ki d0 d1 d2 d3 d4 d5; obtain ⟨HB2, hbc2, kn, kt, ki, d0, d1, d2, d3, d4, d5⟩ := HF.out w2 hb2; clear hb2 HW)
      | (go_at_call 38; with_reducible refine (HT2.out _ HB2.out).mono ?_; rintro e w3 ⟨rfl, hO, hb3⟩; have HO3 := Lib.hid hO; have HB3 := Lib.hid hb3; clear hO hb3)
      | fail)
    refine bodyPost_end (results_none rfl _ _ _) rfl ?_
    exact ⟨rfl, HO3.out, HB3.out⟩
theorem gives2 (c : Cr) (x : Nd) (i : Nat) (A : Option Addr) (cp bc bn bt bi base tb fb mb K B M : Nat) (v0 : Value) (w0 : World) (F0 : Prop) (hK : Caught c x i A cp bc bn bt bi tb fb mb v0 w0)
    (hB : 8 ≤ B ∧ B ≤ fb ∧ B ≤ mb ∧ B ≤ base ∧ B ≤ w0.heap.size) (hv : ∀ q, v0.ownBlock = some q → B ≤ q) (hN : Ns w0 B A c.needs) (hl : c.needs.length ≤ 1000000) (hG : Gl w0) (hx : -9223372036854775808 ≤ x.k ∧ x.k ≤ 9223372036854775807) (hi : i ≤ 1000000) (hM : K + M ≤ 100000) :
    Gives 40 #[.pointer (some ⟨bc, 0, none⟩), .pointer (some ⟨bn, 0, none⟩), .pointer (some ⟨bt, 0, none⟩), .pointer (some ⟨bi, 0, none⟩)] B M Fits (Hold c x.k F0 K base tb fb mb v0 w0) where
  enters := enters_of Tryz.func40 (by kernel_rfl) rfl
  low := fun done W h => by
    obtain ⟨n, v, G, L, h1, _⟩ := h
    have := h1.lo.2.2.2.2
    omega
  old := fun done W W' h hb => h.old hb
  give := fun done a A' c' W hf hd _ hI => check2_any c x i A cp bc bn bt bi base tb fb mb K B M v0 w0 F0 hK hB hv hN hl hG hx hi hM done a A' c' W hf hd hI
end Go.Proofs.YtbkffdfboloogaaGreatDoor
namespace Go.Proofs.YtbkffdfboloogaaGreatDoor
open Go.RowKit Go.Maps Go.Lib
set_option linter.unusedVariables false
set_option maxRecDepth 100000

/-- no block but the faults' box, the map and the faults' own rows has turned -/
def Oks (fb mb : Nat) (w w' : World) : Prop := ∀ q o, w.heap[q]? = some o → q ≠ fb → q ≠ mb → (∀ cs fz, o ≠ .cells cs 52 fz) → w'.heap[q]? = some o
theorem Oks.of_below {fb mb : Nat} {w w' : World} (h : Below w.heap.size w w') : Oks fb mb w w' := fun q o hq _ _ _ => (h.block q (Array.getElem?_eq_some_iff.1 hq).1).trans hq
theorem Oks.of_fg {base fb mb : Nat} {v v' : Value} {w w' : World} {L : List Ft} (h : Fg fb mb v v' w w') (hr : Fw w base v L) : Oks fb mb w w' := fun q o hq hf hm ho => by
  refine (h.block q (Array.getElem?_eq_some_iff.1 hq).1 hf hm fun e => ?_).trans hq
  rcases hr.2 with ⟨h1, _⟩ | ⟨g, cap, cur, h1, h2, h3, _⟩
  · rw [h1] at e; simp [Value.ownBlock] at e
  · rw [h1] at e
    simp [Value.ownBlock] at e
    subst e
    rw [hq] at h3
    injection h3 with h3
    exact ho _ _ h3
theorem Oks.trans {fb mb : Nat} {a b c : World} (h : Oks fb mb a b) (k : Oks fb mb b c) : Oks fb mb a c := fun q o hq hf hm ho => k q o (h q o hq hf hm ho) hf hm ho
theorem Oks.mp {fb mb : Nat} {w w' : World} (h : Oks fb mb w w') {b n : Nat} {G : Int → Option Bool} (hM : Mp numC yesE w b n G) (hf : b ≠ fb) (hm : b ≠ mb) : Mp numC yesE w' b n G := by
  obtain ⟨D, ⟨es, clock, h2, h3⟩, hR⟩ := hM
  exact ⟨D, ⟨es, clock, h b _ h2 hf hm (fun cs fz e => by cases e), h3⟩, hR⟩
/-- faults told so far, in the world W, that began as w5 -/
def Mid (base tb fb mb K : Nat) (P : Prop) (w5 W : World) : Prop :=
  ∃ n v G L, Fs W base tb fb mb n v G L ∧ Fg fb mb (.slice none 0 0) v w5 W ∧ (L ≠ [] ↔ P) ∧ L.length ≤ K ∧ n ≤ K
section
variable {base tb fb mb K : Nat} {P : Prop} {w5 W W' : World}
theorem Mid.old (h : Mid base tb fb mb K P w5 W) (hb : Below W.heap.size W W') : Mid base tb fb mb K P w5 W' := by
  obtain ⟨n, v, G, L, h1, h2, h3⟩ := h
  exact ⟨n, v, G, L, h1.below hb, h2.trans (Fg.of_below hb), h3⟩
theorem Mid.more (h : Mid base tb fb mb K P w5 W) {K' : Nat} (hK : K ≤ K') : Mid base tb fb mb K' P w5 W := by
  obtain ⟨n, v, G, L, h1, h2, h3, h4, h5⟩ := h
  exact ⟨n, v, G, L, h1, h2, h3, by omega, by omega⟩
theorem Mid.iff (h : Mid base tb fb mb K P w5 W) {P' : Prop} (e : P ↔ P') : Mid base tb fb mb K P' w5 W := by
  obtain ⟨n, v, G, L, h1, h2, h3, h4⟩ := h
  exact ⟨n, v, G, L, h1, h2, h3.trans e, h4⟩
theorem Mid.grown (h : Mid base tb fb mb K P w5 W) {ab : Nat} (hg : W.grownBy W' (some ab)) (h5 : w5.heap.size ≤ ab) (hab : ab < W.heap.size) (hap : ∀ cs fz, W.heap[ab]? ≠ some (.cells cs 52 fz)) (hb5 : base ≤ w5.heap.size) : Mid base tb fb mb K P w5 W' := by
  obtain ⟨n, v, G, L, h1, h2, h3⟩ := h
  obtain ⟨l1, l2, l3, l4, l5⟩ := h1.lo
  have hz := hg.size
  have bl : ∀ q, q < W.heap.size → q ≠ ab → W'.heap[q]? = W.heap[q]? := fun q hq hn => hg.block q hq (fun e => hn (by injection e))
  have hva : v.ownBlock ≠ some ab := fun e => by
    rcases h1.row.2 with ⟨g1, _⟩ | ⟨g, cap, cur, g1, g2, g3, _⟩
    · rw [g1] at e; simp [Value.ownBlock] at e
    · rw [g1] at e
      simp [Value.ownBlock] at e
      subst e
      exact hap _ _ g3
  refine ⟨n, v, G, L, ⟨(bl tb h1.tlt (by omega)).trans h1.tbx, (bl fb h1.flt (by omega)).trans h1.fbx, ?_, h1.row.keep fun q hq => bl q (h1.own hq).2 (fun e => hva (by rw [hq, e])), ⟨l1, l2, l3, l4, by omega⟩, h1.nil⟩, ⟨hg.os.trans h2.os, hg.tape.trans h2.tape, hg.output.trans h2.output, by have := h2.size; omega, fun q hq hf hm hv => (bl q (by have := h2.size; omega) (by omega)).trans (h2.block q hq hf hm hv), h2.loc⟩, h3⟩
  obtain ⟨D, ⟨es, clock, m2, m3⟩, hR⟩ := h1.mp
  exact ⟨D, ⟨es, clock, (bl mb (Array.getElem?_eq_some_iff.1 m2).1 (by omega)).trans m2, m3⟩, hR⟩
theorem Mid.size (h : Mid base tb fb mb K P w5 W) : w5.heap.size ≤ W.heap.size := by
  obtain ⟨n, v, G, L, h1, h2, h3⟩ := h
  exact h2.size
theorem Mid.below (h : Mid base tb fb mb K P w5 W) {B : Nat} (hB : B ≤ w5.heap.size) (hf : B ≤ fb) (hm : B ≤ mb) : Below B w5 W := by
  obtain ⟨n, v, G, L, h1, h2, h3⟩ := h
  exact h2.below hB hf hm (fun q hq => by simp [Value.ownBlock] at hq)
/-- a block of the world w5, beside the faults' -/
theorem Mid.blk (h : Mid base tb fb mb K P w5 W) {q : Nat} (hq : q < w5.heap.size) (hf : q ≠ fb) (hm : q ≠ mb) : W.heap[q]? = w5.heap[q]? := by
  obtain ⟨n, v, G, L, h1, h2, h3⟩ := h
  exact h2.block q hq hf hm (by simp [Value.ownBlock])
theorem Mid.tell (h : Mid base tb fb mb K P w5 W) (hK : K ≤ 100000) (x : Ft) (hx : FtOk x) :
    Calls Tryz.prog 38 #[.agg #[.int .i64 x.1, .int .i64 x.2.1, .string x.2.2.1, .int .i64 x.2.2.2], .pointer (some ⟨tb, 0, none⟩), .pointer (some ⟨fb, 0, none⟩)] W fun e w' => e = .returned (.tuple #[]) ∧ Mid base tb fb mb (K + 1) True w5 w' ∧ Oks fb mb W w' := by
  obtain ⟨n, v, G, L, h1, h2, h3, h4, h5⟩ := h
  refine (tell_any W base tb fb mb n v G L x hx h1 (by omega) (by omega)).mono ?_
  rintro e w' ⟨rfl, n', v', G', L', t1, t2, t3, t4, t5⟩
  exact ⟨rfl, ⟨n', v', G', L', t1, h2.trans t5, ⟨fun _ => trivial, fun _ => t2⟩, by omega, by omega⟩, Oks.of_fg t5 h1.row⟩
theorem Mid.apart (h : Mid base tb fb mb K P w5 W) : ∃ n v G L, Fs W base tb fb mb n v G L ∧ Fg fb mb (.slice none 0 0) v w5 W ∧ (L ≠ [] ↔ P) ∧ L.length ≤ K ∧ n ≤ K ∧ ∀ q o, W.heap[q]? = some o → q ≠ fb → q ≠ mb → (∀ cs fz, o ≠ .cells cs 52 fz) → Apart fb mb v W q := by
  obtain ⟨n, v, G, L, h1, h2, h3, h4, h5⟩ := h
  refine ⟨n, v, G, L, h1, h2, h3, h4, h5, fun q o hq hf hm ho => ⟨(Array.getElem?_eq_some_iff.1 hq).1, hf, hm, fun e => ?_⟩⟩
  rcases h1.row.2 with ⟨g1, _⟩ | ⟨g, cap, cur, g1, g2, g3, _⟩
  · rw [g1] at e; simp [Value.ownBlock] at e
  · rw [g1] at e
    simp [Value.ownBlock] at e
    subst e
    rw [hq] at g3
    injection g3 with g3
    exact ho _ _ g3
end
theorem one_cell {W : World} {q : Nat} {v : Value} {t : TypeId} (h : W.heap[q]? = some (.cells #[v] t (0, 0))) : W.cell? ⟨q, 0, none⟩ = some v := by simp [World.cell?, h]
/-- the atoms of a need's rule are looked at -/
theorem Mid.each {base tb fb mb K : Nat} {P : Prop} {w5 W : World} (h : Mid base tb fb mb K P w5 W) (c : Cr) (x : Nd) (i : Nat) (A A' : Option Addr) (cp c' bc bn bt bi B : Nat) (hK : K ≤ 90000)
    (hc : W.heap[bc]? = some (.cells (crA c A cp) 26 (0, 0))) (hn : W.heap[bn]? = some (.cells (ndA x A' c') 35 (0, 0)))
    (ht : W.heap[bt]? = some (.cells #[.func (.func 38) #[] #[.pointer (some ⟨tb, 0, none⟩), .pointer (some ⟨fb, 0, none⟩)]] 80 (0, 0))) (hi : W.heap[bi]? = some (.cells #[.int .i64 (i : Int)] 3 (0, 0)))
    (hne : bc ≠ fb ∧ bc ≠ mb ∧ bn ≠ fb ∧ bn ≠ mb ∧ bt ≠ fb ∧ bt ≠ mb ∧ bi ≠ fb ∧ bi ≠ mb) (hB : 8 ≤ B ∧ B ≤ fb ∧ B ≤ mb ∧ B ≤ base ∧ B ≤ w5.heap.size) (hN : Ns W B A c.needs) (hl : c.needs.length ≤ 1000000) (hNL : NL W B A' x.r.l) (hS : Sm8 x) (hG : Gl W) (hx : -9223372036854775808 ≤ x.k ∧ x.k ≤ 9223372036854775807) (hi' : i ≤ 1000000) :
    Calls Tryz.prog 39 #[.agg (rlA x.r A' c'), .func (.func 40) #[] #[.pointer (some ⟨bc, 0, none⟩), .pointer (some ⟨bn, 0, none⟩), .pointer (some ⟨bt, 0, none⟩), .pointer (some ⟨bi, 0, none⟩)]] W fun e w' => e = .returned (.tuple #[]) ∧ Mid base tb fb mb (K + 1000) (P ∨ WrongAt c x.k (atomsR x.r)) w5 w' ∧ Oks fb mb W w' ∧ Below B W w' := by
  have hsz := h.size
  obtain ⟨n, v, G, L, h1, h2, h3, h4, h5, hA⟩ := h.apart
  obtain ⟨n1, n2, n3, n4, n5, n6, n7, n8⟩ := hne
  obtain ⟨b1, b2, b3, b4, b5⟩ := hB
  have hlen := atoms_len _ x.r (Nat.le_refl _)
  have hns := hS.1
  have hg := gives2 c x i A cp bc bn bt bi base tb fb mb K B 1000 v W P
    ⟨hc, by rw [World.cell?, hn]; rfl, one_cell ht, one_cell hi, hA bc _ hc n1 n2 (fun cs fz e => by injection e with _ e _; exact absurd e (by decide)), hA bn _ hn n3 n4 (fun cs fz e => by injection e with _ e _; exact absurd e (by decide)), hA bt _ ht n5 n6 (fun cs fz e => by injection e with _ e _; exact absurd e (by decide)), hA bi _ hi n7 n8 (fun cs fz e => by injection e with _ e _; exact absurd e (by decide))⟩
    ⟨b1, b2, b3, b4, by omega⟩ (fun q hq => by have := (h1.own hq).1; omega) hN hl hG hx hi' (by omega)
  refine (each_any _ _ _ _ _ _ hg x.r (by omega) A' c' W [] hNL (by have := len_nszL x.r.l; have := nsz_l x.r; omega) hS.2 (by simp; omega) ⟨n, v, G, L, h1, Fg.refl _ _ _ _, ?_, by simpa using h4, by simpa using h5⟩).mono ?_
  · rw [h3]
    constructor
    · exact .inl
    · rintro (h | h)
      · exact h
      · exact absurd h (wrong_nil _ _)
  · rintro e w' ⟨rfl, ⟨n', v', G', L', t1, t2, t3, t4, t5⟩, hb⟩
    rw [List.nil_append] at t3 t4 t5
    exact ⟨rfl, ⟨n', v', G', L', t1, h2.trans t2, t3, by omega, by omega⟩, Oks.of_fg t2 h1.row, hb⟩
end Go.Proofs.YtbkffdfboloogaaGreatDoor
