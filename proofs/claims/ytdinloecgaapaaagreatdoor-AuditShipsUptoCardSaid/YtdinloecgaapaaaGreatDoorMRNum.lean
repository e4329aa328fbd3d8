/- Register.numbers, of any function that tells entries: the numbers of those bills that it tells. register.first, of any checks: the code of the first that holds. -/
import Derived.Test.YtdinloecgaapaaaGreatDoorMRMem
import Derived.Test.YtdinloecgaapaaaGreatDoorRIter
import Derived.Sort.OwnSorted
import Derived.Laws.AppendOwn
import Derived.Lib.AppendZeros
import Derived.Shelf.Abstract
import Derived.Laws.Rows
import Derived.Laws.Tables
namespace Go.Proofs.YtdinloecgaapaaaGreatDoor
open Go.RowKit Go.Maps Go.Lib Go.Sort
set_option linter.unusedVariables false
set_option maxRecDepth 100000

theorem cntM_le {P : Program} {k : TypeId} {α β : Type} {C : KeyC P k α} {E : ElC β} {w : World} {b r n : Nat} {G : α → Option β} {lf : α → Bool} {cnt : Nat} (h : Rn' C E w b r n G lf cnt) : cnt ≤ n := by
  obtain ⟨D, left, h, _⟩ := h
  obtain ⟨es, clock, since, seen, c0, _, _, h3, _, _, _, h7, _⟩ := h
  have : (leftOf es seen).size ≤ es.size := Array.size_filter_le
  omega
theorem grown_below {a w : World} (h : Below a.heap.size a w) (row : Option Nat) : a.grownBy w row := ⟨h.os, h.tape, h.output, h.size, fun i hi _ => h.block i hi⟩
section
variable (w : World) {ops : Array Oper} {rest : List Oper} {o : Oper} {a : Act} {Q : Exit → Act → World → Prop}
theorem wpList_next_pt (hg : o.guard = none) (it : Operand) (hop : o.op = Op.next it false) (b r n : Nat) (G : ByteArray → Option (Option Nat)) (lf : ByteArray → Bool) (cnt : Nat)
    (hit : a.eval it = .pointer (some ⟨r, 0, none⟩)) (h : Rn' nmC ptE w b r n G lf cnt)
    (hDone : (∀ x, x.size ≤ maxLen → lf x = false) → wpList Tryz.prog ops Q rest (a.put o.dst (.tuple #[.bool false])) w)
    (hMore : ∀ (x : ByteArray) (v : Option Nat) (w' : World) (cnt' : Nat), x.size ≤ maxLen → lf x = true → G x = some v → Rn' nmC ptE w' b r n G (fun z => lf z && !decide (z = x)) cnt' → cnt' < cnt →
      w.grownBy w' (some r) → w'.heap.size = w.heap.size → (Instr.entry (.pointer (some ⟨r, 0, none⟩))).run Tryz.prog w' = .ok (.tuple #[.string x, ptV v]) w' → wpList Tryz.prog ops Q rest (a.put o.dst (.tuple #[.bool true, .string x, ptV v])) w') :
    wpList Tryz.prog ops Q (o :: rest) a w :=
  wpList_next_mp w hg it hop b r n G lf cnt hit h hDone fun x v w' cnt' h1 h2 h3 _ h5 h6 h7 h8 h9 => hMore x v w' cnt' h1 h2 h3 h5 h6 h7 h8 h9
end
/-- is a number's bill told? -/
def toldB (G : ByteArray → Option (Option Nat)) (S : Nat → Option En) (p : En → Bool) (k : ByteArray) : Bool := match G k with
  | some (some e) => match S e with
    | some x => p x
    | none => false
  | _ => false
def NumP (G : ByteArray → Option (Option Nat)) (S : Nat → Option En) (p : En → Bool) (n : Nat) (w : World) (e : Ending) (w' : World) : Prop :=
  ∃ A' c' L, e = .returned (.slice A' (List.length L) c') ∧ Sr w' A' L ∧ (∀ k, k ∈ L ↔ toldB G S p k = true) ∧ L.length ≤ n ∧ Below w.heap.size w w'
/-- an own row of texts -/
def Ow (w : World) (base : Nat) (v : Value) (L : List ByteArray) : Prop := w.ownsRow base 9 1 v L.length (L.map Value.string)
theorem Ow.nil (w : World) (base : Nat) : Ow w base (.slice none 0 0) [] := World.ownsRow_nil _ _ _ _
theorem Ow.keep {w w' : World} {base : Nat} {v : Value} {L : List ByteArray} (h : Ow w base v L) (hk : ∀ q, v.ownBlock = some q → w'.heap[q]? = w.heap[q]?) : Ow w' base v L := by
  refine ⟨h.1, ?_⟩
  rcases h.2 with h2 | ⟨g, cap, cur, e, hb, hg, h4⟩
  · exact .inl h2
  · refine .inr ⟨g, cap, cur, e, hb, ?_, h4⟩
    rw [hk g (by rw [e]; rfl)]
    exact hg
theorem Ow.lt {w : World} {base : Nat} {v : Value} {L : List ByteArray} (h : Ow w base v L) {q : Nat} (hq : v.ownBlock = some q) : base ≤ q ∧ q < w.heap.size := by
  rcases h.2 with ⟨h1, _⟩ | ⟨g, cap, cur, h1, h2, h3, _⟩
  · rw [h1] at hq; simp [Value.ownBlock] at hq
  · rw [h1] at hq
    simp [Value.ownBlock] at hq
    subst hq
    exact ⟨h2, lt_of_some h3⟩
theorem Ow.form {w : World} {base : Nat} {v : Value} {L : List ByteArray} (h : Ow w base v L) : ∃ A c, v = .slice A L.length c := by
  rcases h.2 with ⟨h1, h2⟩ | ⟨g, cap, cur, h1, _⟩
  · exact ⟨none, 0, by rw [h1, h2]⟩
  · exact ⟨_, _, h1⟩
theorem str_infoR : (Tryz.prog.info? 9).map (fun i => (i.zero, i.size, i.bytes)) = some (some (.string ⟨#[]⟩), 1, 16) := by kernel_rfl
/-- one text more -/
theorem Ow.more {w : World} {base : Nat} {A : Option Addr} {c : Nat} {L : List ByteArray} (h : Ow w base (.slice A L.length c) L) (x : ByteArray) (hl : L.length ≤ 100000) (hb : base ≤ w.heap.size) :
    ∃ A' c' w', (Builtin.append_ #[22, 22] 22 #[.slice A L.length c, .slice (some ⟨w.heap.size, 0, none⟩) 1 1]).run Tryz.prog (w.alloc (.cells #[.string x] 9)) = .ok (.slice A' (L.length + 1) c') w' ∧ Ow w' base (.slice A' (L.length + 1) c') (L ++ [x]) ∧ (w.alloc (.cells #[.string x] 9)).grownBy w' (Value.slice A L.length c).ownBlock := by
  obtain ⟨i0, hi0, hz0, hz1, hz2⟩ := info_parts str_infoR
  have hba : Below w.heap.size w (w.alloc (.cells #[.string x] 9)) := (Below.refl _ _).alloc (Nat.le_refl _) _
  have h1 : Ow (w.alloc (.cells #[.string x] 9)) base (.slice A L.length c) L := h.keep fun q hq => hba.block q (h.lt hq).2
  have hs : (w.alloc (.cells #[.string x] 9)).heap.size = w.heap.size + 1 := by simp
  obtain ⟨v', w', hr, h2, h3, _, h5⟩ := run_append_own_at (P := Tryz.prog) (w := w.alloc (.cells #[.string x] 9)) base 22 22 9 i0 (.string ⟨#[]⟩) 1 16 Tryz.underlying22 hi0 hz0 hz1 hz2 rfl (by omega) (.slice A L.length c) L.length (L.map Value.string) h1 ⟨w.heap.size, 0, none⟩ 1 1 [.string x] rfl (fun j u hu => by
      match j, hu with
      | 0, hu => simp at hu; subst hu; simp [Addr.add]
      | j + 1, hu => simp at hu) (by intro u hu; simp at hu; subst hu; rfl) (by unfold maxLen; omega) (by omega) (by omega)
  have h2' : Ow w' base v' (L ++ [x]) := by
    unfold Ow
    rw [List.length_append, List.map_append]
    exact h2
  obtain ⟨A', c', rfl⟩ := h2'.form
  have hlen : (L ++ [x]).length = L.length + 1 := by simp
  rw [hlen] at hr h2'
  exact ⟨A', c', w', hr, h2', h3⟩
theorem ba_map (L : List ByteArray) : L.map Value.string = (L.map (·.data.toList)).map encStr := by
  rw [List.map_map]
  rfl
/-- slices.Sort of an own row of texts: the same texts -/
def SoP (base : Nat) (A : Option Addr) (c : Nat) (L : List ByteArray) (w : World) (e : Ending) (w' : World) : Prop :=
  e = .returned (.tuple #[]) ∧ ∃ L', L'.length = L.length ∧ (∀ k, k ∈ L' ↔ k ∈ L) ∧ Sr w' A L' ∧ Below base w w'
theorem sort_r (base : Nat) (A : Option Addr) (c : Nat) (L : List ByteArray) (w : World) (h : Ow w base (.slice A L.length c) L) (hb : base ≤ w.heap.size) (hl : L.length ≤ 100000) :
    Calls Tryz.prog 63 #[.slice A L.length c] w fun e w' => SoP base A c L w e w' := by
  rcases h.2 with ⟨h1, h2⟩ | ⟨g, cap, cur, h1, h2, h3, h4, h5, h6, h7⟩
  · have hL : L = [] := List.length_eq_zero_iff.1 h2
    subst hL
    injection h1 with h1 _ h1c
    subst h1 h1c
    refine (Tryz.slices_Sort_string_none none 0 w).mono ?_
    rintro e w' ⟨rfl, rfl⟩
    exact ⟨rfl, [], rfl, fun _ => Iff.rfl, fun h => absurd h (by simp), Below.refl _ _⟩
  · injection h1 with h1 _ h1c
    subst h1 h1c
    have hlt := lt_of_some h3
    have hss : (L.map (·.data.toList)).length = L.length := by simp
    rw [Nat.mul_one, ba_map, ← hss] at h7
    have hc := Tryz.slices_Sort_string g 0 c (L.map (·.data.toList)) w (holds_of_block h3 h7) hlt (by rw [hss]; omega)
    rw [hss] at hc
    refine Calls.mono hc ?_
    rintro e w' ⟨rfl, n, os, rfl⟩
    have hlen : ((L.map (·.data.toList)).mergeSort fun x y => decide (x ≤ y)).length = (L.map (·.data.toList)).length := by simp
    have hown := ownsRow_sorted (w := w) (n := n) (os := os) (ts := (L.map (·.data.toList)).mergeSort fun x y => decide (x ≤ y)) hlen h2 h3 (by rw [hss]; exact h4) h5 h6
    have hgr := grownBy_sorted (w := w) (g := g) (n := n) (os := os) ((L.map (·.data.toList)).mergeSort fun x y => decide (x ≤ y)).toArray
    refine ⟨rfl, ((L.map (·.data.toList)).mergeSort fun x y => decide (x ≤ y)).map (fun l => (⟨l.toArray⟩ : ByteArray)), by simp, fun k => ?_, ?_, (Below.refl _ _).grown hgr hb (fun j hj => by injection hj with hj; omega)⟩
    · rw [List.mem_map]
      constructor
      · rintro ⟨l, hl', rfl⟩
        rw [List.mem_mergeSort] at hl'
        obtain ⟨y, hy, rfl⟩ := List.mem_map.1 hl'
        have : (⟨y.data.toList.toArray⟩ : ByteArray) = y := by apply ByteArray.ext; simp
        rw [this]
        exact hy
      · intro hk
        exact ⟨k.data.toList, by rw [List.mem_mergeSort]; exact List.mem_map.2 ⟨k, hk, rfl⟩, by apply ByteArray.ext; simp⟩
    · rw [hss] at hown
      have e2 : ((L.map (·.data.toList)).mergeSort fun x y => decide (x ≤ y)).map encStr = (((L.map (·.data.toList)).mergeSort fun x y => decide (x ≤ y)).map (fun l => (⟨l.toArray⟩ : ByteArray))).map Value.string := by
        rw [List.map_map]
        rfl
      rw [e2] at hown
      obtain ⟨A', c', hv, hs⟩ := sr_of_row (by simp) hown
      injection hv with hv
      subst hv
      exact hs
end Go.Proofs.YtdinloecgaapaaaGreatDoor
namespace Go.Proofs.YtdinloecgaapaaaGreatDoor
open Go.RowKit Go.Maps Go.Lib
set_option linter.unusedVariables false
set_option maxRecDepth 100000

/-- a check: its code, its closure -/
structure Ck where
  code : Int
  fn : FuncId
  cap : Array Value
def ckA (c : Ck) : Array Value := #[.int .i64 c.code, .func (.func c.fn) #[] c.cap]
/-- the checks lie in a block -/
def CkAt (w : World) (g : Nat) (C : List Ck) : Prop := ∀ (i : Nat) c, C[i]? = some c → w.cell? ⟨g, i * 2, none⟩ = some (.int .i64 c.code) ∧ w.cell? ⟨g, i * 2 + 1, none⟩ = some (.func (.func c.fn) #[] c.cap)
theorem run_store_funcR {P : Program} {w : World} {a : Addr} {m : Mode} (f : Fn) (ts : Array Value) (cap : Array Value) : (store a (.func f ts cap) m).run P w = stored P w a (.func f ts cap) m := run_store P w a _ m rfl
attribute [local go_sem] run_store_funcR
theorem infoCheck : (Tryz.prog.info? 160).map (·.size) = some 2 := by kernel_rfl
theorem setRow_allocR (W : World) (cs ds : Array Value) (t : TypeId) : (W.alloc (.cells cs t)).setRow W.heap.size ds = W.alloc (.cells ds t) := by
  unfold World.setRow World.alloc
  simp only
  congr 1
  apply Array.ext
  · simp
  · intro i h1 h2
    rw [Array.getElem_modify]
    by_cases hi : W.heap.size = i
    · subst hi; simp
    · have hlt : i < W.heap.size := by simp at h1; omega
      simp [hi, Array.getElem_push, hlt]
def FsP (n : Nat) (T : Nat → Bool → Prop) (w : World) (e : Ending) (w' : World) : Prop := ∃ code : Int, e = .returned (.int .i64 code) ∧ (code = 0 → ∀ j, j < n → T j false) ∧ Below w.heap.size w w'
def CkP (T : Bool → Prop) (w : World) (e : Ending) (w' : World) : Prop := ∃ r : Bool, e = .returned (.bool r) ∧ T r ∧ Below w.heap.size w w'
set_option maxHeartbeats 4000000 in
theorem first_r (C : List Ck) (T : Nat → Bool → Prop) (g c : Nat) (w : World) (hC : CkAt w g C) (hg : g < w.heap.size) (hl : C.length ≤ 100) (hn0 : ∀ x ∈ C, x.code ≠ 0)
    (eg : ∀ x ∈ C, ∀ args w, (callFunc x.fn args).run Tryz.prog w = .ok (.enter x.fn args) w)
    (hT : ∀ (j : Nat) x, C[j]? = some x → (∀ i, i < j → T i false) → ∀ W, Below w.heap.size w W → Calls Tryz.prog x.fn x.cap W fun e w' => CkP (T j) W e w') :
    Calls Tryz.prog 76 #[.slice (some ⟨g, 0, none⟩) C.length c] w fun e w' => FsP C.length T w e w' := by
  have HT := Lib.hid hT
  have HC := Lib.hid hC
  have HE := Lib.hid eg
  have HYes : Hid (∀ (code : Int) W, code ≠ 0 → Below w.heap.size w W → FsP C.length T w (.returned (.int .i64 code)) W) := Lib.hid (fun code W h hb => ⟨code, rfl, fun h0 => absurd h0 h, hb⟩)
  have HEnd : Hid ((∀ j, j < C.length → T j false) → ∀ W, Below w.heap.size w W → FsP C.length T w (.returned (.int .i64 0)) W) := Lib.hid (fun h W hb => ⟨0, rfl, fun _ => h, hb⟩)
  have HN0 := Lib.hid hn0
  generalize FsP C.length T w = CP at *
  clear hT hC eg hn0
  go_enter Tryz.func76, Tryz.ntmps76
  go_wp2_with fail
  go_loopw [7] (fun i wr => ∃ k : Nat, k ≤ C.length ∧ i = .int .i64 (k : Int) ∧ Hid (∀ j, j < k → T j false) ∧ Hid (Below w.heap.size w wr)) (fun i _ => C.length - (RowKit.intOf i).toNat)
  case atStart => exact ⟨0, Nat.zero_le _, rfl, Lib.hid (fun j h => by omega), Lib.hid (Below.refl _ _)⟩
  case round =>
    obtain ⟨k, hk, rfl, HP, HB⟩ := hrel
    by_cases hlt : k < C.length
    · have b1 : (k : Int) < (C.length : Int) := by omega
      have b0 : (0 : Int) ≤ (k : Int) := by omega
      have hx := List.getElem?_eq_getElem hlt
      obtain ⟨d0, d1⟩ := HC.out k _ hx
      have c0 := (HB.out.cell (p := ⟨g, k * 2, none⟩) hg).trans d0
      have c1 := (HB.out.cell (p := ⟨g, k * 2 + 1, none⟩) hg).trans d1
      have hmem : C[k] ∈ C := List.getElem_mem hlt
      have hne := HN0.out _ hmem
      have hen := HE.out _ hmem
      have hba : Below wr.heap.size wr (wr.alloc (.cells (ckA C[k]) 160)) := (Below.refl _ _).alloc (Nat.le_refl _) _
      have hB2 := HB.out.trans (hba.mono HB.out.size)
      have HTk := Lib.hid (HT.out k _ hx HP.out _ hB2)
      have HB2 := Lib.hid hB2
      have HNe := Lib.hid hne
      clear hx d0 d1 hmem hba hB2 HT HC HE HN0 hne
      unfold ckA at HTk HB2
      generalize C[k] = x at *
      generalize x.fn = f at *
      generalize x.cap = cap at *
      generalize x.code = cd at *
      go_wp2_with (first
        | (refine wpList_store_row rfl 160 (.tmp 4) (.tmp 10) rfl wr.heap.size #[.int .i64 cd, .func (.func f) #[] cap] rfl rfl 160 _ (heap_alloc_new _ _) infoCheck rfl rfl ?_; rw [setRow_allocR])
        | (go_at_fn f; refine HTk.out.mono ?_; rintro en w3 ⟨rb, rfl, ht, hb3⟩; have HB3 := Lib.hid (HB2.out.trans (hb3.mono HB2.out.size)); have Ht := Lib.hid ht; have e0 := (hb3.cell (p := ⟨wr.heap.size, 0, none⟩) (by simp)).trans (show (wr.alloc (.cells #[.int .i64 cd, .func (.func f) #[] cap] 160)).cell? ⟨wr.heap.size, 0, none⟩ = some (.int .i64 cd) by simp); clear hb3 ht; cases rb)
        | fail)
      all_goals
        first
          | (have HP2 : Hid (∀ j, j < k + 1 → T j false) := Lib.hid (fun j hj => by
              by_cases e : j = k
              · subst e; exact Ht.out
              · exact HP.out j (by omega))
             exact ⟨⟨k + 1, by omega, by go_num, HP2, HB3⟩, by simp [RowKit.intOf]; omega⟩)
          | exact HYes.out _ _ HNe.out HB3.out
          | (go_ret; exact HYes.out _ _ HNe.out HB3.out)
    · have b1 : ¬ (k : Int) < (C.length : Int) := by omega
      have HF := Lib.hid (HEnd.out (fun j hj => HP.out j (by omega)) wr HB.out)
      go_wp2_with fail
      first
        | exact HF.out
        | (go_ret; exact HF.out)
end Go.Proofs.YtdinloecgaapaaaGreatDoor
