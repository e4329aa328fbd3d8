/- What audit and the document tell of a carrier, plain. What a row of lines, or of who has what, leaves of a register, a chain. What audit.Ship's closure has at hand. -/
import Derived.Test.YtdinloecgaapaaaGreatDoorHBox
import Derived.Test.YtdinloecgaapaaaGreatDoorRBills
import Derived.Test.YtdinloecgaapaaaGreatDoorMRPlain
import Derived.Test.YtdinloecgaapaaaGreatDoorRAud1
namespace Go.Proofs.YtdinloecgaapaaaGreatDoor
open Go.RowKit Go.Maps Go.Lib Go.Sort
set_option linter.unusedVariables false
set_option maxRecDepth 100000

/-- a line: its last word bears its space -/
def lineU (name s wd : ByteArray) : ByteArray := name ++ (⟨#[32]⟩ : ByteArray) ++ s ++ wd
def wTw : ByteArray := ⟨#[32, 116, 119, 105, 99, 101]⟩
def wEl : ByteArray := ⟨#[32, 101, 108, 115, 101, 119, 104, 101, 114, 101]⟩
def wUn : ByteArray := ⟨#[32, 117, 110, 115, 117, 114, 114, 101, 110, 100, 101, 114, 101, 100]⟩
def wGo : ByteArray := ⟨#[32, 103, 111, 110, 101]⟩
theorem join_tw (name s : ByteArray) : (⟨(Lib.join ([name, s, ⟨#[116, 119, 105, 99, 101]⟩].map (·.data.toList)) [32]).toArray⟩ : ByteArray) = lineU name s wTw := by
  apply ByteArray.ext
  simp [lineU, wTw, Lib.join, ByteArray.data_append]
theorem join_el (name s : ByteArray) : (⟨(Lib.join ([name, s, ⟨#[101, 108, 115, 101, 119, 104, 101, 114, 101]⟩].map (·.data.toList)) [32]).toArray⟩ : ByteArray) = lineU name s wEl := by
  apply ByteArray.ext
  simp [lineU, wEl, Lib.join, ByteArray.data_append]
theorem join_un (name s : ByteArray) : (⟨(Lib.join ([name, s, ⟨#[117, 110, 115, 117, 114, 114, 101, 110, 100, 101, 114, 101, 100]⟩].map (·.data.toList)) [32]).toArray⟩ : ByteArray) = lineU name s wUn := by
  apply ByteArray.ext
  simp [lineU, wUn, Lib.join, ByteArray.data_append]
theorem join_go (name s : ByteArray) : (⟨(Lib.join ([name, s, ⟨#[103, 111, 110, 101]⟩].map (·.data.toList)) [32]).toArray⟩ : ByteArray) = lineU name s wGo := by
  apply ByteArray.ext
  simp [lineU, wGo, Lib.join, ByteArray.data_append]
theorem line_size (name s wd : ByteArray) : (lineU name s wd).size = name.size + 1 + s.size + wd.size := by
  simp only [lineU, ByteArray.size_append]
  rfl
/-- how often a box is handed out; to whom last -/
def cntO (l : List Hn) (s : ByteArray) : Nat := l.countP fun h => decide (h.bx = s)
def lastO (l : List Hn) (s : ByteArray) : ByteArray := l.foldl (fun a h => if h.bx = s then h.tt else a) ⟨#[]⟩
theorem cntO_snoc (l : List Hn) (h : Hn) (s : ByteArray) : cntO (l ++ [h]) s = cntO l s + if h.bx = s then 1 else 0 := by
  unfold cntO
  rw [List.countP_append, List.countP_cons]
  by_cases e : h.bx = s <;> simp [e]
theorem lastO_snoc (l : List Hn) (h : Hn) (s : ByteArray) : lastO (l ++ [h]) s = if h.bx = s then h.tt else lastO l s := by
  unfold lastO
  rw [List.foldl_append]
  rfl
theorem cntO_le (l : List Hn) (s : ByteArray) : cntO l s ≤ l.length := List.countP_le_length
/-- what the lines hang on -/
structure Shp where
  name : ByteArray
  out : List Hn
  wh : ByteArray → Option ByteArray
  su : Nt → Bool
  lv : ByteArray → Bool
def s1 (name : ByteArray) (n : Nat) (s : ByteArray) : List ByteArray := if 1 < n then [lineU name s wTw] else []
def s2 (name : ByteArray) (n : Nat) (wo : Option ByteArray) (la s : ByteArray) : List ByteArray := if 0 < n ∧ wo ≠ some la then [lineU name s wEl] else []
def s3 (name : ByteArray) (n : Nat) (su : Bool) (s : ByteArray) : List ByteArray := if 0 < n ∧ su = false then [lineU name s wUn] else []
def s4 (name : ByteArray) (lv : Bool) (wo : Option ByteArray) (s : ByteArray) : List ByteArray := if lv = true ∧ wo ≠ some name then [lineU name s wGo] else []
def shipL (D : Shp) (s : ByteArray) : List ByteArray := s1 D.name (cntO D.out s) s ++ s2 D.name (cntO D.out s) (D.wh s) (lastO D.out s) s ++ s3 D.name (cntO D.out s) (D.su (lastO D.out s, s)) s ++ s4 D.name (D.lv s) (D.wh s) s
def docS (D : Shp) (M : List ByteArray) : List ByteArray := M.flatMap (shipL D)
theorem docS_step (D : Shp) (M : List ByteArray) (k : Nat) (h : k < M.length) : docS D (M.take (k + 1)) = docS D (M.take k) ++ shipL D M[k] := by
  rw [List.take_succ_eq_append_getElem h]
  unfold docS
  rw [List.flatMap_append]
  simp
theorem s1_len (a : ByteArray) (n : Nat) (s : ByteArray) : (s1 a n s).length ≤ 1 := by unfold s1; split <;> simp
theorem s2_len (a : ByteArray) (n : Nat) (wo : Option ByteArray) (la s : ByteArray) : (s2 a n wo la s).length ≤ 1 := by unfold s2; split <;> simp
theorem s3_len (a : ByteArray) (n : Nat) (su : Bool) (s : ByteArray) : (s3 a n su s).length ≤ 1 := by unfold s3; split <;> simp
theorem s4_len (a : ByteArray) (lv : Bool) (wo : Option ByteArray) (s : ByteArray) : (s4 a lv wo s).length ≤ 1 := by unfold s4; split <;> simp
/-- an object that is no row of lines, nor one of who has what -/
def NotU (o : Obj) : Prop := ∀ cs t fz, o = .cells cs t fz → t ≠ 22 ∧ t ≠ 50
def KpU (w w' : World) : Prop := ∀ (q : Nat) o, w.heap[q]? = some o → NotU o → w'.heap[q]? = some o
theorem notU_cells {cs : Array Value} {t : TypeId} {fz : Nat × Nat} (h : t ≠ 22 ∧ t ≠ 50) : NotU (.cells cs t fz) := fun cs' t' fz' e => by
  injection e with _ e _
  subst e
  exact h
theorem KpU.below {w w' : World} (hb : Below w.heap.size w w') : KpU w w' := fun q o hq _ => keep_of_below hb hq
theorem KpU.trans {a b c : World} (h : KpU a b) (k : KpU b c) : KpU a c := fun q o hq hn => k q o (h q o hq hn) hn
theorem KpU.kp {w w' : World} {po : Nat} (hk : Kp (fun q => q = po) w w') {cs : Array Value} {fz : Nat × Nat} (hpo : w.heap[po]? = some (.cells cs 22 fz)) : KpU w w' := fun q o hq hn => by
  refine (hk.block q (lt_of_some hq) ?_).trans hq
  rintro rfl
  rw [hpo] at hq
  injection hq with hq
  exact (hn _ _ _ hq.symm).1 rfl
theorem KpU.grown {w w' : World} {base size n : Nat} {v : Value} {xs : List Value} (h : w.ownsRow base 50 size v n xs) (hg : w.grownBy w' v.ownBlock) : KpU w w' := fun q o hq hn => by
  refine (hg.block q (lt_of_some hq) fun e2 => ?_).trans hq
  obtain ⟨cs, hcs⟩ := row_blk h e2.symm
  rw [hq] at hcs
  injection hcs with hcs
  exact (hn cs _ (0, 0) hcs).2 rfl
theorem mp_keepU {P : Program} {k : TypeId} {α β : Type} {C : KeyC P k α} {E : ElC β} {w w' : World} {b n : Nat} {G : α → Option β} (h : Mp C E w b n G) (hk : KpU w w') : Mp C E w' b n G := by
  obtain ⟨D, ⟨es, clock, e2, e3⟩, hR⟩ := h
  exact ⟨D, ⟨es, clock, hk _ _ e2 (fun cs t fz e => by cases e), e3⟩, hR⟩
theorem RgS.keepU {w w' : World} {base r N b n : Nat} {ca : ByteArray} {G : ByteArray → Option (Option Nat)} {S : Nat → Option En} (h : RgS w base r ca N b n G S) (hk : KpU w w') : RgS w' base r ca N b n G S := by
  have hsr : ∀ A L, Sr w A L → Sr w' A L := fun A L hs => hs.keep fun g cs hg => hk g _ hg (notU_cells (by decide))
  refine ⟨hk _ _ h.reg (notU_cells (by decide)), h.rlo, h.blo, mp_keepU h.map hk, h.num, h.ent, fun e x he => ?_, h.dj, h.fit⟩
  have ha := h.at_ e x he
  refine ⟨ha.lo, hk _ _ ha.obj (notU_cells (by decide)), hsr _ _ ha.box, hsr _ _ ha.par, fun i hi => ?_⟩
  have hc := ha.ch i hi
  refine hc.keep fun g hg => ?_
  obtain ⟨cs, ho, _⟩ := hc
  obtain ⟨cs2, h6⟩ := row_blk ho (g := g) hg
  rw [h6]
  exact hk _ _ h6 (notU_cells (by decide))
theorem Gq.keepU {w w' : World} {base b k : Nat} {av : Option Nat} {F : ByteArray → List Hn} (h : Gq base w b k av F) (hk : KpU w w') : Gq base w' b k av F := by
  obtain ⟨h0, Q, h1, h2, h3, h4, h5⟩ := h
  refine ⟨h0, Q, mp_keepU h1 hk, h2, fun s v hs => ⟨(h3 s v hs).1, (h3 s v hs).2.1, (h3 s v hs).2.2.keep fun q hq => ?_⟩, h4, h5⟩
  obtain ⟨cs2, h6⟩ := row_blk (h3 s v hs).2.2 hq
  rw [h6]
  exact hk _ _ h6 (notU_cells (by decide))
theorem ChS.keepU {w w' : World} {base p b k : Nat} {H : ByteArray → List Hn} (h : ChS w base p b k H) (hk : KpU w w') : ChS w' base p b k H := ⟨hk _ _ h.reg (notU_cells (by decide)), h.plo, h.gq.keepU hk, h.day, h.tos, h.key, h.len⟩
end Go.Proofs.YtdinloecgaapaaaGreatDoor
namespace Go.Proofs.YtdinloecgaapaaaGreatDoor
open Go.RowKit Go.Maps Go.Lib Go.Sort
set_option linter.unusedVariables false
set_option maxRecDepth 100000

noncomputable def inE : ElC Int := intE Tryz.prog 3 Tryz.underlying3
def stR : Value → Option (DataW Unit × List MemPlace)
  | .string s => some (.lit (.string s.data.toList), [])
  | _ => none
def stE : ElC ByteArray where
  mk := .string
  dat s := .lit (.string s.data.toList)
  ok _ := True
  R := stR
  of _ _ := rfl
  inv x z h := by
    unfold stR at h
    split at h
    · cases h; exact ⟨_, rfl, rfl, trivial⟩
    · cases h
  inj u v h := by
    injection h with h
    injection h with h
    exact ByteArray.ext (Array.ext' h)
theorem zeroI (W : World) : (zeroValue 3).run Tryz.prog W = .ok (.int .i64 0) W := by kernel_rfl
theorem zeroS (W : World) : (zeroValue 9).run Tryz.prog W = .ok (.string ⟨#[]⟩) W := by kernel_rfl
/-- what the closure has at hand -/
structure Sc (w : World) (p1 p2 p3 p4 p5 p6 p7 base r N b n cb p b2 kc mt nt ml nl ms ns : Nat) (ca : ByteArray) (G : ByteArray → Option (Option Nat)) (S : Nat → Option En) (H : ByteArray → List Hn) (OA : Option Addr) (oc : Nat) (D : Shp) (FT : ByteArray → Option Int) (FL : ByteArray → Option ByteArray) (FS : Nt → Option Bool) : Prop where
  c1 : w.heap[p1]? = some (.cells #[.pointer (some ⟨r, 0, none⟩)] 29 (0, 0))
  c2 : w.heap[p2]? = some (.cells #[.pointer (some ⟨p, 0, none⟩)] 38 (0, 0))
  c3 : w.heap[p3]? = some (.cells #[.slice OA D.out.length oc] 37 (0, 0))
  c4 : w.heap[p4]? = some (.cells #[.map (some mt)] 90 (0, 0))
  c5 : w.heap[p5]? = some (.cells #[.string D.name] 9 (0, 0))
  c6 : w.heap[p6]? = some (.cells #[.map (some ml)] 91 (0, 0))
  c7 : w.heap[p7]? = some (.cells #[.map (some ms)] 92 (0, 0))
  mt_ : Mp nmC inE w mt nt FT
  ml_ : Mp nmC stE w ml nl FL
  ms_ : Mp hoC bE w ms ns FS
  rg : RgS w base r ca N b n G S
  ch : ChS w cb p b2 kc H
/-- what the parts say -/
structure Sd (n kc : Nat) (G : ByteArray → Option (Option Nat)) (S : Nat → Option En) (H : ByteArray → List Hn) (D : Shp) (FT : ByteArray → Option Int) (FL : ByteArray → Option ByteArray) (FS : Nt → Option Bool) : Prop where
  n : n ≤ 100
  k : kc ≤ 1000
  o : D.out.length ≤ 1000
  nm : D.name.size ≤ 100000000
  ob : ∀ h ∈ D.out, h.bx.size ≤ 100000000
  ot : ∀ h ∈ D.out, h.tt.size ≤ 100000000
  ft : ∀ s, (FT s).getD 0 = (cntO D.out s : Int)
  fl : ∀ s, (FL s).getD ⟨#[]⟩ = lastO D.out s
  fs : ∀ q, D.su q = (FS q).getD false
  wh : D.wh = whoOf H
  lv : ∀ s, D.lv s = true ↔ anyB G S (livE s)
section
variable {w w' : World} {p1 p2 p3 p4 p5 p6 p7 base r N b n cb p b2 kc mt nt ml nl ms ns : Nat} {ca : ByteArray} {G : ByteArray → Option (Option Nat)} {S : Nat → Option En} {H : ByteArray → List Hn} {OA : Option Addr} {oc : Nat} {D : Shp} {FT : ByteArray → Option Int} {FL : ByteArray → Option ByteArray} {FS : Nt → Option Bool}
theorem Sc.keepU (h : Sc w p1 p2 p3 p4 p5 p6 p7 base r N b n cb p b2 kc mt nt ml nl ms ns ca G S H OA oc D FT FL FS) (hk : KpU w w') : Sc w' p1 p2 p3 p4 p5 p6 p7 base r N b n cb p b2 kc mt nt ml nl ms ns ca G S H OA oc D FT FL FS :=
  ⟨hk _ _ h.c1 (notU_cells (by decide)), hk _ _ h.c2 (notU_cells (by decide)), hk _ _ h.c3 (notU_cells (by decide)), hk _ _ h.c4 (notU_cells (by decide)), hk _ _ h.c5 (notU_cells (by decide)), hk _ _ h.c6 (notU_cells (by decide)), hk _ _ h.c7 (notU_cells (by decide)), mp_keepU h.mt_ hk, mp_keepU h.ml_ hk, mp_keepU h.ms_ hk, h.rg.keepU hk, h.ch.keepU hk⟩
theorem Sc.lookT (h : Sc w p1 p2 p3 p4 p5 p6 p7 base r N b n cb p b2 kc mt nt ml nl ms ns ca G S H OA oc D FT FL FS) (d : Sd n kc G S H D FT FL FS) {s : ByteArray} (hs : s.size ≤ maxLen) :
    (Instr.lookup 90 (.map (some mt)) (.string s) false).run Tryz.prog w = .ok (.int .i64 (cntO D.out s : Nat)) w := by
  have := h.mt_.look (t := 90) (e := 3) Tryz.underlying90 (z := 0) (zeroI w) (by rfl) (x := s) hs
  rw [d.ft s] at this
  exact this
theorem Sc.lookL (h : Sc w p1 p2 p3 p4 p5 p6 p7 base r N b n cb p b2 kc mt nt ml nl ms ns ca G S H OA oc D FT FL FS) (d : Sd n kc G S H D FT FL FS) {s : ByteArray} (hs : s.size ≤ maxLen) :
    (Instr.lookup 91 (.map (some ml)) (.string s) false).run Tryz.prog w = .ok (.string (lastO D.out s)) w := by
  have := h.ml_.look (t := 91) (e := 9) Tryz.underlying91 (z := ⟨#[]⟩) (zeroS w) trivial (x := s) hs
  rw [d.fl s] at this
  exact this
theorem Sc.lookS (h : Sc w p1 p2 p3 p4 p5 p6 p7 base r N b n cb p b2 kc mt nt ml nl ms ns ca G S H OA oc D FT FL FS) (d : Sd n kc G S H D FT FL FS) {a s : ByteArray} (hs : s.size ≤ maxLen) (ha : a.size ≤ maxLen) :
    (Instr.lookup 92 (.map (some ms)) (.agg #[.string a, .string s]) false).run Tryz.prog w = .ok (.bool (D.su (a, s))) w := by
  have := h.ms_.look (t := 92) (e := 4) Tryz.underlying92 (z := false) (zeroBoolH w) trivial (x := (a, s)) ⟨ha, hs⟩
  rw [← d.fs] at this
  exact this
theorem lastO_size {out : List Hn} (h : ∀ x ∈ out, x.tt.size ≤ 100000000) (s : ByteArray) : (lastO out s).size ≤ 100000000 := by
  have key : ∀ (l : List Hn) (a : ByteArray), (∀ x ∈ l, x.tt.size ≤ 100000000) → a.size ≤ 100000000 → (l.foldl (fun a h => if h.bx = s then h.tt else a) a).size ≤ 100000000 := by
    intro l
    induction l with
    | nil => intro a _ ha; exact ha
    | cons x l ih =>
      intro a hl ha
      refine ih _ (fun y hy => hl y (List.mem_cons_of_mem _ hy)) ?_
      show (if x.bx = s then x.tt else a).size ≤ _
      split
      · exact hl x (List.mem_cons_self ..)
      · exact ha
  exact key out _ h (by decide)
end
theorem line3 (w2 : World) (po : Nat) (name s wd J : ByteArray) (w : World) (out : List ByteArray) (hL : Ln w2 w po out) (hol : out.length ≤ 100000) (hn : name.size ≤ 100000000) (hs : s.size ≤ 100000000) (hw : wd.size ≤ 100) (hJ : (⟨(Lib.join ([name, s, wd].map (·.data.toList)) [32]).toArray⟩ : ByteArray) = J) (hz : J.size ≤ 1000000000) :
    Calls Tryz.prog 60 #[.slice (some ⟨w.heap.size, 0, none⟩) 3 3, .pointer (some ⟨po, 0, none⟩)] (w.alloc (.cells #[.string name, .string s, .string wd] 9)) fun e w' => e = .returned (.tuple #[]) ∧ Ln w2 w' po (out ++ [J]) :=
  line_ln w2 po w.heap.size 3 [name, s, wd] J _ out (hL.below ((Below.refl _ w).alloc (Nat.le_refl _) _)) hol (fun j x h => by
    match j, h with
    | 0, h => simp at h; subst h; simp
    | 1, h => simp at h; subst h; simp
    | 2, h => simp at h; subst h; simp
    | j + 3, h => simp at h) (by simp) (by simp) (by simp) hJ.symm (by omega)

end Go.Proofs.YtdinloecgaapaaaGreatDoor
