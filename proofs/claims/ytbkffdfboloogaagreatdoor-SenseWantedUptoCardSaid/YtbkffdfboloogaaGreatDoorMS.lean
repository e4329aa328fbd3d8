/- A builder that is written: what a write adds, what it keeps. paper.digits, paper.count, paper.need. syntax.bracketed and syntax.row, out of syntax.show. -/
import Derived.Test.YtbkffdfboloogaaGreatDoorMR
import Derived.Lib.OthersKept
import Derived.Test.YtbkffdfboloogaaGreatDoorMC
import Derived.Laws.Rows
import Derived.Deep.RegionWith
namespace Go.Proofs.YtbkffdfboloogaaGreatDoor
open Go.RowKit Go.Lib
set_option linter.unusedVariables false
set_option maxRecDepth 100000

theorem gTab : Tryz.prog.globalNamed "internal/strconv.uint64pow10" = some 3 := by kernel_rfl
/-- what is read of the package variables, all of them -/
structure Ev (w : World) : Prop where
  wd : Wd w
  gl : Gl w
  pp : ∀ k, k < 6 → w.cell? ⟨0, k, none⟩ = some (.string ⟨(wordL k).toArray⟩)
theorem Gl.low {w w' : World} (h : Gl w) {B : Nat} (hb : Below B w w') (hB : 8 ≤ B) : Gl w' := by
  obtain ⟨t1, p1, h1⟩ := h.e1
  obtain ⟨t2, p2, h2⟩ := h.e2
  obtain ⟨m, h4⟩ := h.ml
  refine ⟨⟨t1, p1, (hb.cell (p := ⟨1, 0, none⟩) (by show 1 < B; omega)).trans h1⟩, ⟨t2, p2, (hb.cell (p := ⟨2, 0, none⟩) (by show 2 < B; omega)).trans h2⟩, ?_, ⟨m, (hb.cell (p := ⟨4, 0, none⟩) (by show 4 < B; omega)).trans h4⟩⟩
  have ht := h.tab
  have hk := hb.block 3 (by omega)
  unfold Lib.TabIs World.var? at *
  rw [gTab] at *
  simp only [Option.bind_some] at *
  rw [hk]
  exact ht
theorem Ev.low {w w' : World} (h : Ev w) {B : Nat} (hb : Below B w w') (hB : 8 ≤ B) : Ev w' := ⟨h.wd.below hb (by omega), h.gl.low hb hB, fun k hk => (hb.cell (p := ⟨0, k, none⟩) (by show 0 < B; omega)).trans (h.pp k hk)⟩
theorem Ev.lt {w : World} (h : Ev w) : 8 ≤ w.heap.size := h.wd.lt
theorem Ev.all {w w' : World} (h : Ev w) (hb : Below w.heap.size w w') : Ev w' := h.low hb h.lt
/-- the builder in block b holds l; all of it lies from B on -/
def Bw (w : World) (B b : Nat) (l : Bs) : Prop := Lib.IsBuilderF 121 5 B b (Lib.byteCells l) w
/-- nothing has turned but the builder, its bytes, and what is new -/
structure Fr (B b : Nat) (w w' : World) : Prop where
  below : Below B w w'
  oth : Lib.OthersKept 5 (some b) w w'
theorem Fr.refl (B b : Nat) (w : World) : Fr B b w w := ⟨Below.refl _ _, OthersKept.refl _ _ _⟩
theorem Fr.trans {B b : Nat} {a c d : World} (h : Fr B b a c) (k : Fr B b c d) : Fr B b a d := ⟨h.below.trans k.below, h.oth.trans k.oth⟩
theorem oth_below {e : TypeId} {b : Option Nat} {w w' : World} (h : Below w.heap.size w w') : OthersKept e b w w' := fun k o hk _ _ => (h.block k (Array.getElem?_eq_some_iff.1 hk).1).trans hk
theorem Fr.of_below {B b : Nat} {w w' : World} (h : Below w.heap.size w w') (hB : B ≤ w.heap.size) : Fr B b w w' := ⟨h.mono hB, oth_below h⟩
theorem Fr.alloc {B b : Nat} {a w : World} (h : Fr B b a w) (hB : B ≤ w.heap.size) (o : Obj) : Fr B b a (w.alloc o) := ⟨h.below.alloc hB o, h.oth.alloc o⟩
theorem Fr.size {B b : Nat} {w w' : World} (h : Fr B b w w') : w.heap.size ≤ w'.heap.size := h.below.size
/-- a block of other cells stands -/
theorem Fr.blk {B b : Nat} {w w' : World} (h : Fr B b w w') {k : Nat} {cs : Array Value} {t : TypeId} {fz : Nat × Nat} (hk : w.heap[k]? = some (.cells cs t fz)) (ht : t ≠ 5) (hb : k ≠ b) : w'.heap[k]? = some (.cells cs t fz) :=
  h.oth k _ hk (fun e => hb (Option.some.inj e)) (fun c fz' e => ht (by injection e))
theorem at_below {T e : TypeId} {B b : Nat} {p : Value} {bs : List Value} {w w' : World} (h : Lib.BuilderAtF T e B b p bs w) (hb : Below w.heap.size w w') : Lib.BuilderAtF T e B b p bs w' := by
  have hlt := h.lt
  obtain ⟨hB, v, h1, h2, h3⟩ := h
  exact ⟨hB, v, (hb.block b hlt).trans h1, h2.kept (grown_of_below hb none) (by cases hv : v.ownBlock <;> simp), h3⟩
theorem Bw.below {w w' : World} {B b : Nat} {l : Bs} (h : Bw w B b l) (hb : Below w.heap.size w w') : Bw w' B b l := by
  rcases h with h | h
  · exact .inl (at_below h hb)
  · exact .inr (at_below h hb)
theorem Bw.alloc {w : World} {B b : Nat} {l : Bs} (h : Bw w B b l) (o : Obj) : Bw (w.alloc o) B b l := h.below ((Below.refl _ _).alloc (Nat.le_refl _) o)
theorem Bw.lt {w : World} {B b : Nat} {l : Bs} (h : Bw w B b l) : b < w.heap.size := by
  rcases h with h | h
  · exact h.lt
  · exact h.lt
theorem Bw.new (w : World) : Bw (w.alloc (.cells #[.pointer none, .slice none 0 0] 121)) w.heap.size w.heap.size [] :=
  .inl ⟨Nat.le_refl _, _, heap_alloc_new w _, World.ownsRowF_nil _ _ _ _, by simp [Value.ownBlock]⟩
/-- a text more -/
theorem write_bld (B b : Nat) (l : Bs) (s : ByteArray) (w : World) (h : Bw w B b l) (hlen : l.length + s.size ≤ 1000000000000) (hB : B ≤ w.heap.size) :
    Calls Tryz.prog 82 #[.pointer (some ⟨b, 0, none⟩), .string s] w fun e w' => e = .returned (.tuple #[.int .i64 s.size, .nilIface]) ∧ Bw w' B b (l ++ s.data.toList) ∧ Fr B b w w' := by
  refine (Tryz.Builder_WriteString_k B b (Lib.byteCells l) s w h (by rw [Lib.byteCells_length]; omega) hB).mono ?_
  rintro e w' ⟨rfl, h1, h2, h3⟩
  refine ⟨rfl, ?_, ⟨h2, h3⟩⟩
  unfold Bw
  rw [Lib.byteCells_append]
  exact .inr h1
/-- what is written, as a text -/
theorem text_bld (B b : Nat) (l : Bs) (w : World) (h : Bw w B b l) (hB : B ≤ w.heap.size) :
    Calls Tryz.prog 86 #[.pointer (some ⟨b, 0, none⟩)] w fun e w' => e = .returned (.string ⟨l.toArray⟩) ∧ Bw w' B b l ∧ Fr B b w w' := by
  refine (Tryz.Builder_String_any_k B b l w h hB).mono ?_
  rintro e w' ⟨rfl, h1, h2, h3⟩
  exact ⟨rfl, h1, ⟨h2, h3⟩⟩
theorem itoa_any (n : Int) (w : World) (hG : Gl w) (h0 : -9223372036854775808 ≤ n) (h1 : n ≤ 9223372036854775807) : Calls Tryz.prog 80 #[.int .i64 n] w fun e w' => e = .returned (.string ⟨(itL n).toArray⟩) ∧ Below w.heap.size w w' := by
  refine (Tryz.strconv_Itoa n h0 h1 w hG.tab).mono ?_
  rintro e w' ⟨he, k, os, rfl⟩
  exact ⟨he, below_grow _ _ (Nat.le_refl _) _ _⟩
end Go.Proofs.YtbkffdfboloogaaGreatDoor
namespace Go.Proofs.YtbkffdfboloogaaGreatDoor
open Go.RowKit Go.Maps Go.Lib
set_option linter.unusedVariables false
set_option maxRecDepth 100000

theorem digitsTx_any (n : Int) (w : World) (hG : Gl w) (h0 : -9223372036854775808 ≤ n) (h1 : n ≤ 9223372036854775807) : Calls Tryz.prog 56 #[.int .i64 n] w fun e w' => e = .returned (.string ⟨(itL n).toArray⟩) ∧ Below w.heap.size w w' := by
  have HC : Hid (Calls Tryz.prog 63 #[.int .i64 n, .int .i64 10] w fun e w' => e = .returned (.string ⟨(itL n).toArray⟩) ∧ Below w.heap.size w w') := Lib.hid (by
    refine (Tryz.strconv_FormatInt_10 n h0 h1 w hG.tab).mono ?_
    rintro e w' ⟨he, k, os, rfl⟩
    exact ⟨he, below_grow _ _ (Nat.le_refl _) _ _⟩)
  clear hG
  generalize (⟨(itL n).toArray⟩ : ByteArray) = s at *
  go_enter Tryz.func56, Tryz.ntmps56
  go_wp2_with (first
    | (go_at_call 63; (with_reducible refine HC.out.mono ?_); rintro e w3 ⟨rfl, hb3⟩; have HB3 := Lib.hid hb3; clear hb3)
    | fail)
  first
  | exact ⟨rfl, HB3.out⟩
  | (go_ret; exact ⟨rfl, HB3.out⟩)
theorem countTx_any (n : Int) (w : World) (hG : Gl w) (h0 : -9223372036854775808 ≤ n) (h1 : n ≤ 9223372036854775807) : Calls Tryz.prog 57 #[.int .i64 n] w fun e w' => e = .returned (.string ⟨(itL n).toArray⟩) ∧ Below w.heap.size w w' := by
  have HC := Lib.hid (itoa_any n w hG h0 h1)
  clear hG
  generalize (⟨(itL n).toArray⟩ : ByteArray) = s at *
  go_enter Tryz.func57, Tryz.ntmps57
  go_wp2_with (first
    | (go_at_call 80; (with_reducible refine HC.out.mono ?_); rintro e w3 ⟨rfl, hb3⟩; have HB3 := Lib.hid hb3; clear hb3)
    | fail)
  first
  | exact ⟨rfl, HB3.out⟩
  | (go_ret; exact ⟨rfl, HB3.out⟩)
theorem infoNeedW : (Tryz.prog.info? 35).map (·.size) = some 8 := by kernel_rfl
theorem need_any (k : Int) (A : Option Addr) (n c : Nat) (w : World) : Calls Tryz.prog 22 #[.int .i64 k, .slice A n c] w fun e w' => e = .returned (.agg #[.int .i64 k, .int .i64 1, .int .i64 0, .int .i64 0, .string ⟨#[]⟩, .string ⟨#[]⟩, .int .i64 0, .slice A n c]) ∧ Below w.heap.size w w' := by
  have hb : Below w.heap.size w (w.alloc (.cells #[.int .i64 k, .int .i64 1, .int .i64 0, .int .i64 0, .string ⟨#[]⟩, .string ⟨#[]⟩, .int .i64 0, .slice A n c] 35)) := (Below.refl _ _).alloc (Nat.le_refl _) _
  have HB := Lib.hid hb
  clear hb
  go_enter Tryz.func22, Tryz.ntmps22
  go_wp2_with fail
  refine bodyPost_ret (results_cell_row rfl _ _ w.heap.size 35 #[.int .i64 k, .int .i64 1, .int .i64 0, .int .i64 0, .string ⟨#[]⟩, .string ⟨#[]⟩, .int .i64 0, .slice A n c] (0, 0) _ rfl (heap_alloc_new _ _) Tryz.underlying35 rfl infoNeedW) rfl ?_
  exact ⟨rfl, HB.out⟩
end Go.Proofs.YtbkffdfboloogaaGreatDoor
namespace Go.Proofs.YtbkffdfboloogaaGreatDoor
open Go.RowKit Go.Lib
set_option linter.unusedVariables false
set_option maxRecDepth 100000

/-- what a rule's writing leans on -/
structure Ask (w : World) (B b Bn : Nat) (A : Option Addr) (l : Bs) (x : Rl) : Prop where
  nl : NL w Bn A x.l
  bn : Bn ≤ B
  ev : Ev w
  b8 : 8 ≤ B
  bw : Bw w B b l
  bs : B ≤ w.heap.size
  right : rightR x = true
  size : nsz x ≤ 1000
  fits : ∀ a ∈ atomsR x, Fits a
def ShowSaid (x : Rl) : Prop := ∀ (A : Option Addr) (c : Nat) (w : World) (B b Bn : Nat) (l : Bs), Ask w B b Bn A l x → l.length + (showL x).length ≤ 900000000000 →
  Calls Tryz.prog 121 #[.pointer (some ⟨b, 0, none⟩), .agg (rlA x A c)] w fun e w' => e = .returned (.tuple #[]) ∧ Bw w' B b (l ++ showL x) ∧ Fr B b w w'
theorem node_ne : 33 ≠ 5 := by decide
/-- the box of a rule stands -/
theorem box_cells (x : Rl) (A : Option Addr) (c : Nat) (w : World) (B b : Nat) (hb : b < w.heap.size) : ∀ W : World, Fr B b (w.alloc (.cells (rlA x A c) 33)) W → W.cell? ⟨w.heap.size, 0, none⟩ = some (.int .i64 x.k) ∧ W.cell? ⟨w.heap.size, 1, none⟩ = some (.int .i64 x.p) ∧ W.cell? ⟨w.heap.size, 2, none⟩ = some (.string x.f) ∧ W.cell? ⟨w.heap.size, 3, none⟩ = some (.string x.t) ∧ W.cell? ⟨w.heap.size, 4, none⟩ = some (.int .i64 x.n) ∧ W.cell? ⟨w.heap.size, 5, none⟩ = some (.slice A x.l.length c) := fun W hW => by
  have h := hW.blk (heap_alloc_new w (.cells (rlA x A c) 33)) node_ne (by omega)
  refine ⟨?_, ?_, ?_, ?_, ?_, ?_⟩ <;> simp [World.cell?, h, rlA]
theorem Ask.box {w : World} {B b Bn : Nat} {A : Option Addr} {l : Bs} {x : Rl} (h : Ask w B b Bn A l x) (c : Nat) : Fr B b w (w.alloc (.cells (rlA x A c) 33)) := (Fr.refl B b w).alloc h.bs _
/-- what is asked of it later on -/
theorem Ask.on {w W : World} {B b Bn : Nat} {A : Option Addr} {l l' : Bs} {x : Rl} (h : Ask w B b Bn A l x) (hf : Fr B b w W) (hw : Bw W B b l') : Ask W B b Bn A l' x :=
  ⟨h.nl.kept (hf.below.mono h.bn), h.bn, h.ev.low hf.below h.b8, h.b8, hw, Nat.le_trans h.bs hf.size, h.right, h.size, h.fits⟩

/-- one text more, in a world that has come -/
theorem more_text (B b : Nat) (l : Bs) (s : ByteArray) (w : World) (hB : B ≤ w.heap.size) (hl : l.length + s.size ≤ 1000000000000) : ∀ W : World, Bw W B b l → Fr B b w W → Calls Tryz.prog 82 #[.pointer (some ⟨b, 0, none⟩), .string s] W fun e w' => (e = .returned (.tuple #[.int .i64 s.size, .nilIface])) ∧ Bw w' B b (l ++ s.data.toList) ∧ Fr B b w w' := fun W hb hW => by
  refine (write_bld B b l s W hb hl (Nat.le_trans hB hW.size)).mono ?_
  rintro e w' ⟨rfl, h1, h2⟩
  exact ⟨rfl, h1, hW.trans h2⟩
set_option maxHeartbeats 2000000 in
theorem bracketed_any (x : Rl) (hx : ShowSaid x) (o : Int) (A : Option Addr) (c : Nat) (w : World) (B b Bn : Nat) (l : Bs) (h : Ask w B b Bn A l x) (hlen : l.length + (brkL o x).length ≤ 900000000000) :
    Calls Tryz.prog 150 #[.pointer (some ⟨b, 0, none⟩), .int .i64 o, .agg (rlA x A c)] w fun e w' => e = .returned (.tuple #[]) ∧ Bw w' B b (l ++ brkL o x) ∧ Fr B b w w' := by
  have hf1 := h.box c
  have H6 := Lib.hid (box_cells x A c w B b h.bw.lt)
  have hN := h.bw.lt
  obtain ⟨k0, k1, k2, k3, k4, k5⟩ := H6.out _ (Fr.refl _ _ _)
  have HB1 := Lib.hid (h.bw.alloc (.cells (rlA x A c) 33))
  have hz1 : B ≤ (w.alloc (.cells (rlA x A c) 33)).heap.size := Nat.le_trans h.bs hf1.size
  have HF1 := Lib.hid hf1
  have HS : Hid (∀ (W : World) (l' : Bs), l'.length + (showL x).length ≤ 900000000000 → Bw W B b l' → Fr B b (w.alloc (.cells (rlA x A c) 33)) W → Calls Tryz.prog 121 #[.pointer (some ⟨b, 0, none⟩), .agg (rlA x A c)] W fun e w' => e = .returned (.tuple #[]) ∧ Bw w' B b (l' ++ showL x) ∧ Fr B b (w.alloc (.cells (rlA x A c) 33)) w') := Lib.hid (fun W l' hl hb hW => by
    refine (hx A c W B b Bn l' (h.on (hf1.trans hW) hb) hl).mono ?_
    rintro e w' ⟨rfl, h1, h2⟩
    exact ⟨rfl, h1, hW.trans h2⟩)
  clear h hx hf1
  by_cases hbr : brB o x.k = true
  · have HE : Hid (brkL o x = [40] ++ showL x ++ [41]) := Lib.hid (by unfold brkL; rw [if_pos hbr])
    rw [HE.out] at hlen
    simp only [List.length_append, List.length_cons, List.length_nil] at hlen
    have HW0 := Lib.hid (more_text B b l ⟨#[40]⟩ (w.alloc (.cells (rlA x A c) 33)) hz1 (by show l.length + 1 ≤ _; omega))
    have HW1 := Lib.hid (more_text B b (l ++ [40] ++ showL x) ⟨#[41]⟩ (w.alloc (.cells (rlA x A c) 33)) hz1 (by simp only [List.length_append, List.length_cons, List.length_nil]; show _ + 1 ≤ _; omega))
    have HS0 := Lib.hid (fun W hb hW => HS.out W (l ++ [40]) (by simp only [List.length_append, List.length_cons, List.length_nil]; omega) hb hW)
    have HL : Hid (l ++ [40] ++ showL x ++ [41] = l ++ brkL o x) := Lib.hid (by rw [HE.out]; simp)
    have hk : (x.k == 1) = true ∨ ((x.k == 1) = false ∧ (x.k == 0) = true ∧ (o != 1) = true) := by
      unfold brB at hbr
      rw [Bool.or_eq_true, Bool.and_eq_true] at hbr
      rcases hbr with hbr | ⟨h0, h1⟩
      · exact .inl hbr
      · right
        rw [beq_iff_eq] at h0
        refine ⟨by rw [h0]; rfl, by rw [h0]; rfl, ?_⟩
        simpa [bne] using h1
    clear HS HE hbr hlen hz1
    unfold rlA at *
    generalize x.l.length = xl at *
    generalize x.k = xk at *
    generalize x.p = xp at *
    generalize x.f = xf at *
    generalize x.t = xt at *
    generalize x.n = xn at *
    have tok1 : True := trivial
    rcases hk with hk | ⟨hk, hk0, hk1⟩
    all_goals
      go_enter Tryz.func150, Tryz.ntmps150
      go_wp2_with (first
        | (have _t := tok1; go_at_call 82; refine (HW0.out _ HB1.out (Fr.refl _ _ _)).mono ?_; rintro e w2 ⟨rfl, hb2, hf2⟩; have HB2 := Lib.hid hb2; have HF2 := Lib.hid hf2; clear k0 k1 k2 k3 k4 k5; obtain ⟨k0, k1, k2, k3, k4, k5⟩ := H6.out w2 hf2; clear hb2 hf2 tok1 _t)
        | (go_at_call 121; refine (HS0.out _ HB2.out HF2.out).mono ?_; rintro e w3 ⟨rfl, hb3, hf3⟩; have HB3 := Lib.hid hb3; have HF3 := Lib.hid hf3; clear hb3 hf3)
        | (go_at_call 82; refine (HW1.out _ HB3.out HF3.out).mono ?_; rintro e w4 ⟨rfl, hb4, hf4⟩; have HB4 := Lib.hid hb4; have HF4 := Lib.hid hf4; clear hb4 hf4)
        | fail)
      refine bodyPost_ret (results_none rfl _ _ _) rfl ?_
      exact ⟨rfl, by rw [← HL.out]; exact HB4.out, HF1.out.trans HF4.out⟩
  · have HE : Hid (brkL o x = showL x) := Lib.hid (by unfold brkL; rw [if_neg hbr])
    rw [HE.out] at hlen
    have HS0 := Lib.hid (fun W hb hW => HS.out W l hlen hb hW)
    have hk : (x.k == 1) = false ∧ ((x.k == 0) = false ∨ ((x.k == 0) = true ∧ (o != 1) = false)) := by
      unfold brB at hbr
      rw [Bool.or_eq_true, not_or, Bool.and_eq_true] at hbr
      refine ⟨by simpa using hbr.1, ?_⟩
      by_cases h0 : (x.k == 0) = true
      · right
        refine ⟨h0, ?_⟩
        have := hbr.2
        rw [h0] at this
        simpa [bne] using this
      · exact .inl (by simpa using h0)
    rw [HE.out]
    clear HS HE hbr hlen hz1
    unfold rlA at *
    generalize x.l.length = xl at *
    generalize x.k = xk at *
    generalize x.p = xp at *
    generalize x.f = xf at *
    generalize x.t = xt at *
    generalize x.n = xn at *
    obtain ⟨hk, hk0⟩ := hk
    rcases hk0 with hk0 | ⟨hk0, hk1⟩
    all_goals
      go_enter Tryz.func150, Tryz.ntmps150
      go_wp2_with (first
        | (go_at_call 121; refine (HS0.out _ HB1.out (Fr.refl _ _ _)).mono ?_; rintro e w3 ⟨rfl, hb3, hf3⟩; have HB3 := Lib.hid hb3; have HF3 := Lib.hid hf3; clear hb3 hf3)
        | fail)
      refine bodyPost_end (results_none rfl _ _ _) rfl ?_
      exact ⟨rfl, HB3.out, HF1.out.trans HF3.out⟩
theorem kid_right {x y : Rl} (hx : rightR x = true) (hk : 0 ≤ x.k ∧ x.k ≤ 2) (hy : y ∈ x.l) : rightR y = true := by
  rcases (show (x.k = 0 ∨ x.k = 1) ∨ x.k = 2 by omega) with h | h
  · rw [right_01 x h, Bool.and_eq_true] at hx
    exact List.all_eq_true.1 hx.2 y hy
  · rw [right_2 x h, Bool.and_eq_true] at hx
    exact List.all_eq_true.1 hx.2 y hy
set_option maxHeartbeats 4000000 in
theorem row_any (x : Rl) (hk : x.k = 0 ∨ x.k = 1) (hC : ∀ y ∈ x.l, ShowSaid y) (s : ByteArray) (hs : s.data.toList = sepL x.k) (A : Option Addr) (c : Nat) (w : World) (B b Bn : Nat) (l : Bs) (h : Ask w B b Bn A l x) (hlen : l.length + (rowL x.k true x.l).length ≤ 900000000000) :
    Calls Tryz.prog 149 #[.pointer (some ⟨b, 0, none⟩), .agg (rlA x A c), .string s] w fun e w' => e = .returned (.tuple #[]) ∧ Bw w' B b (l ++ rowL x.k true x.l) ∧ Fr B b w w' := by
  have hf1 := h.box c
  have hk2 : 0 ≤ x.k ∧ x.k ≤ 2 := by omega
  have H6 := Lib.hid (box_cells x A c w B b h.bw.lt)
  have HbN := Lib.hid h.bw.lt
  have HB1 := Lib.hid (h.bw.alloc (.cells (rlA x A c) 33))
  have hz1 : B ≤ (w.alloc (.cells (rlA x A c) 33)).heap.size := Nat.le_trans h.bs hf1.size
  have HF1 := Lib.hid hf1
  have HA := Lib.hid h
  have hxl : x.l.length ≤ 1000 := by have := len_nszL x.l; have := nsz_l x; have := h.size; omega
  have Hss : Hid (s.size ≤ 5) := Lib.hid (by
    have : s.size = s.data.toList.length := by simp
    rw [this, hs]
    rcases hk with hk | hk <;> rw [hk] <;> decide)
  have HC : Hid (∀ y ∈ x.l, ∀ (W : World) (l' : Bs) (A' : Option Addr) (c' : Nat), NL W Bn A' y.l → l'.length + (brkL x.k y).length ≤ 900000000000 → Bw W B b l' → Fr B b w W → ∀ V : World, Fr B b V W → Calls Tryz.prog 150 #[.pointer (some ⟨b, 0, none⟩), .int .i64 x.k, .agg (rlA y A' c')] W fun e w' => e = .returned (.tuple #[]) ∧ Bw w' B b (l' ++ brkL x.k y) ∧ Fr B b V w') := Lib.hid (fun y hy W l' A' c' hn hl hb hW V hV => by
    refine (bracketed_any y (hC y hy) x.k A' c' W B b Bn l' ⟨hn, h.bn, h.ev.low hW.below h.b8, h.b8, hb, Nat.le_trans h.bs hW.size, kid_right h.right hk2 hy, kid_nsz hy h.size, kid_fits hk2 hy h.fits⟩ hl).mono ?_
    rintro e w' ⟨rfl, h1, h2⟩
    exact ⟨rfl, h1, hV.trans h2⟩)
  have Hks : Hid (x.k = x.k) := Lib.hid rfl
  have HT := Lib.hid (fun i (hi : i < x.l.length) => rowL_take x.k x.l i hi)
  have HTl := Lib.hid (rowL_take_le x.k x.l)
  have HWr := Lib.hid (fun (l' : Bs) (hl : l'.length + s.size ≤ 1000000000000) => more_text B b l' s w h.bs hl)
  clear h hf1 hC hk
  have HX : Hid (x.l = x.l) := Lib.hid rfl
  obtain ⟨k0, k1, k2, k3, k4, k5⟩ := H6.out _ (Fr.refl _ _ _)
  unfold rlA at *
  go_enter Tryz.func149, Tryz.ntmps149
  go_wp2
  clear k0 k1 k2 k3 k4 k5
  generalize (w.alloc (.cells #[.int .i64 x.k, .int .i64 x.p, .string x.f, .string x.t, .int .i64 x.n, .slice A x.l.length c] 33)) = V at *
  go_loopw [11] (fun i wr => ∃ k : Nat, k ≤ x.l.length ∧ i = .int .i64 (k : Int) ∧ Hid (Bw wr B b (l ++ rowL x.k true (x.l.take k))) ∧ Hid (Fr B b V wr)) (fun i _ => x.l.length - (RowKit.intOf i).toNat)
  case atStart => exact ⟨0, Nat.zero_le _, rfl, Lib.hid (by rw [List.take_zero, rowL_nil, List.append_nil]; exact HB1.out), Lib.hid (Fr.refl _ _ _)⟩
  case round =>
    obtain ⟨k, hk, rfl, HB, HF⟩ := hrel
    by_cases hlt : k < x.l.length
    · have b1 : (k : Int) < (x.l.length : Int) := by omega
      have hFw : Fr B b w wr := HF1.out.trans HF.out
      have hzw := hFw.size
      have hBz := HA.out.bs
      obtain ⟨g, off, A', c', rfl, hg, h6, hch⟩ := (HA.out.nl.kept (hFw.below.mono HA.out.bn)).at_ hlt
      obtain ⟨c0, c1, c2, c3, c4, c5⟩ := h6
      have hTl := HTl.out (k + 1)
      rw [HT.out k hlt, List.length_append] at hTl
      obtain ⟨y, hy⟩ : ∃ y, x.l[k] = y := ⟨_, rfl⟩
      have hym : y ∈ x.l := by rw [← hy]; exact List.getElem_mem hlt
      have HTk := Lib.hid (HT.out k hlt)
      rw [hy] at c0 c1 c2 c3 c4 c5 hch HTk hTl
      have hBa : B ≤ wr.heap.size := by omega
      have hbr : b < wr.heap.size := by have := HbN.out; omega
      have Hfa : Hid (Fr B b w (wr.alloc (.cells (rlA y A' c') 33))) := Lib.hid (hFw.alloc hBa _)
      have HFa : Hid (Fr B b V (wr.alloc (.cells (rlA y A' c') 33))) := Lib.hid (HF.out.alloc hBa _)
      have Hba : Hid (Bw (wr.alloc (.cells (rlA y A' c') 33)) B b (l ++ rowL x.k true (x.l.take k))) := Lib.hid (HB.out.alloc _)
      have Hya := Lib.hid (box_cells y A' c' wr B b hbr)
      have Hyn : Hid (∀ W : World, Fr B b (wr.alloc (.cells (rlA y A' c') 33)) W → NL W Bn A' y.l) := Lib.hid (fun W hW => by
        have h1 : Fr B b wr W := ((Fr.refl B b wr).alloc hBa _).trans hW
        exact hch.kept (h1.below.mono HA.out.bn))
      have Hup : Hid (∀ W : World, Fr B b (wr.alloc (.cells (rlA y A' c') 33)) W → Fr B b w W ∧ Fr B b V W) := Lib.hid (fun W hW => ⟨Hfa.out.trans hW, HFa.out.trans hW⟩)
      have e5 := (H6.out wr HF.out).2.2.2.2.2
      have e0 := (H6.out wr HF.out).1
      have HU : Hid (∀ W : World, Fr B b V W → W.cell? ⟨w.heap.size, 0, none⟩ = some (.int .i64 x.k)) := Lib.hid (fun W hW => (H6.out W hW).1)
      have HCy := Lib.hid (HC.out y hym)
      clear hch HC hFw H6
      unfold rlA at *
      by_cases h0 : k = 0
      · have b2 : ¬ (0 : Int) < (k : Int) := by omega
        rw [if_pos h0, List.nil_append] at HTk hTl
        have hl2 : (l ++ rowL x.k true (x.l.take k)).length + (brkL x.k y).length ≤ 900000000000 := by rw [List.length_append]; omega
        have HCz := Lib.hid (fun W hb hf => HCy.out W (l ++ rowL x.k true (x.l.take k)) A' c' (Hyn.out W hf) hl2 hb ((Hup.out W hf).1) V ((Hup.out W hf).2))
        have f0 : (wr.alloc (.cells #[.int .i64 y.k, .int .i64 y.p, .string y.f, .string y.t, .int .i64 y.n, .slice A' y.l.length c'] 33)).cell? ⟨w.heap.size, 0, none⟩ = some (.int .i64 x.k) := HU.out _ HFa.out
        have HVz : Hid (∀ W : World, Fr B b w W → True) := Lib.hid fun _ _ => trivial
        clear hTl HWr HCy hy h0 hl2
        generalize y.l.length = yl at *
        generalize y.k = yk at *
        generalize y.p = yp at *
        generalize y.f = yf at *
        generalize y.t = yt at *
        generalize y.n = yn at *
        go_wp2_with (first
          | (go_at_call 150; refine (HCz.out _ Hba.out (Fr.refl _ _ _)).mono ?_; rintro e w3 ⟨rfl, hb3, hf3⟩; have HB3 := Lib.hid hb3; have HF3 := Lib.hid hf3; clear hb3 hf3)
          | fail)
        go_roundw
        case rel => exact ⟨k + 1, by omega, by go_num, Lib.hid (by rw [HTk.out, ← List.append_assoc]; exact HB3.out), HF3⟩
        case measure => simp [RowKit.intOf]; omega
      · have b2 : (0 : Int) < (k : Int) := by omega
        rw [if_neg h0] at HTk hTl
        have hs5 := Hss.out
        have hsl : s.size = (sepL x.k).length := by rw [← hs]; simp
        have hl2 : (l ++ rowL x.k true (x.l.take k)).length + s.size ≤ 1000000000000 := by rw [List.length_append]; omega
        have hl3 : (l ++ rowL x.k true (x.l.take k) ++ s.data.toList).length + (brkL x.k y).length ≤ 900000000000 := by
          rw [List.length_append, List.length_append, hs]
          rw [List.length_append] at hTl
          omega
        have HWz := Lib.hid (fun W hb hf => more_text B b (l ++ rowL x.k true (x.l.take k)) s (wr.alloc (.cells #[.int .i64 y.k, .int .i64 y.p, .string y.f, .string y.t, .int .i64 y.n, .slice A' y.l.length c'] 33)) (by simp; omega) hl2 W hb hf)
        have HCz := Lib.hid (fun W hb hf => HCy.out W (l ++ rowL x.k true (x.l.take k) ++ s.data.toList) A' c' (Hyn.out W hf) hl3 hb ((Hup.out W hf).1) V ((Hup.out W hf).2))
        have HTs : Hid (rowL x.k true (x.l.take (k + 1)) = rowL x.k true (x.l.take k) ++ (s.data.toList ++ brkL x.k y)) := Lib.hid (by rw [HTk.out, hs])
        have HVp : Hid (∀ W : World, Fr B b (wr.alloc (.cells #[.int .i64 y.k, .int .i64 y.p, .string y.f, .string y.t, .int .i64 y.n, .slice A' y.l.length c'] 33)) W → W.cell? ⟨w.heap.size, 0, none⟩ = some (.int .i64 x.k)) := Lib.hid (fun W hW => HU.out W (Hup.out W hW).2)
        clear hTl HWr HCy hy h0 hl2 hl3 HTk hsl hs5
        generalize y.l.length = yl at *
        generalize y.k = yk at *
        generalize y.p = yp at *
        generalize y.f = yf at *
        generalize y.t = yt at *
        generalize y.n = yn at *
        go_wp2_with (first
          | (go_at_call 82; refine (HWz.out _ Hba.out (Fr.refl _ _ _)).mono ?_; rintro e w2 ⟨rfl, hb2, hf2⟩; have HB2 := Lib.hid hb2; have HF2 := Lib.hid hf2; have g0 := HVp.out w2 hf2; obtain ⟨y0, y1, y2, y3, y4, y5⟩ := Hya.out w2 hf2; clear hb2 hf2)
          | (go_at_call 150; refine (HCz.out _ HB2.out HF2.out).mono ?_; rintro e w3 ⟨rfl, hb3, hf3⟩; have HB3 := Lib.hid hb3; have HF3 := Lib.hid hf3; clear hb3 hf3)
          | fail)
        go_roundw
        case rel => exact ⟨k + 1, by omega, by go_num, Lib.hid (by rw [HTs.out, ← List.append_assoc, ← List.append_assoc]; exact HB3.out), HF3⟩
        case measure => simp [RowKit.intOf]; omega
    · have b1 : ¬ (k : Int) < (x.l.length : Int) := by omega
      have HK : Hid (x.l.take k = x.l) := Lib.hid (List.take_of_length_le (by omega))
      rw [HK.out] at HB
      go_wp2
      refine bodyPost_end (results_none rfl _ _ _) rfl ?_
      exact ⟨rfl, HB.out, HF1.out.trans HF.out⟩
end Go.Proofs.YtbkffdfboloogaaGreatDoor
