/- bank.New: a deal's boxes. Which setups may be, in plain: parties, deals, funds, days. ref06.Name is mark.Name; truth values that come back. A setup's box: what is read through it. ref50.Heavy: what is not heavy has few parties and deals. -/
import Derived.Test.YtchkdidpnjakeaaGreatDoorGBRegP
import Derived.Test.YtchkdidpnjakeaaGreatDoorGBCloneI
import Derived.Test.YtchkdidpnjakeaaGreatDoorGGMap
import Derived.Test.YtchkdidpnjakeaaGreatDoorGClass
import Derived.Test.YtchkdidpnjakeaaGreatDoorGASums
namespace Go.Proofs.YtchkdidpnjakeaaGreatDoor
open Go.RowKit Go.Maps Go.Lib
set_option linter.unusedVariables false
set_option maxRecDepth 100000

/-- how far the boxes of a deal's copy have been copied -/
structure LpI (w0 w : World) (d : Dl) (A : Option Addr) (c k : Nat) : Prop where
  cell : w.heap[w0.heap.size]? = some (.cells (dlA d A c) 72 (0, 0))
  bel : Below w0.heap.size w0 w
  box : (A = none ∧ d.box = []) ∨ ∃ g L, A = some ⟨g, 0, none⟩ ∧ w0.heap.size ≠ g ∧ Cb w0 w g c k d.box L
section
variable {w0 w w3 : World} {d : Dl} {A A' A2 : Option Addr} {c c' c2 k g : Nat} {L : List Bp}
theorem LpI.zlt (h : LpI w0 w d A c k) : w0.heap.size < w.heap.size := (Array.getElem?_eq_some_iff.1 h.cell).1
theorem LpI.start (hC : ClB w0 d.box A2 c2 w3) (hz : w3.heap[w0.heap.size]? = some (.cells (dlA d A' c') 72 (0, 0))) : LpI w0 (w3.setCell ⟨w0.heap.size, 11, none⟩ (.slice A2 d.box.length c2)) d A2 c2 0 := by
  have hcell : (w3.setCell ⟨w0.heap.size, 11, none⟩ (.slice A2 d.box.length c2)).heap[w0.heap.size]? = some (.cells (dlA d A2 c2) 72 (0, 0)) := heap_setCell_same _ _ _ _ _ _ hz
  rcases hC with ⟨h1, h2, h3⟩ | ⟨g, L, h1, h2⟩
  · exact ⟨hcell, h3.setCell (Nat.le_refl _) _, .inl ⟨h1, h2⟩⟩
  · have hne : w0.heap.size ≠ g := fun e => by
      obtain ⟨cs, fr, hb⟩ := h2.blk
      rw [← e, hz] at hb
      injection hb with hb
      injection hb with _ hb
      revert hb
      decide
    exact ⟨hcell, h2.bel.setCell (Nat.le_refl _) _, .inr ⟨g, L, h1, hne, h2.setz (Nat.le_refl _) hne _ _⟩⟩
theorem LpI.step (h : LpI w0 w d (some ⟨g, 0, none⟩) c k) (hg : w0.heap.size ≠ g) (hC : Cb w0 w g c k d.box L) (hk : k < L.length) {w1 : World} (hb : Below w.heap.size w w1) (hR : LtF w1 A' L[k].x.l) (hn : A' = none → c' = 0) :
    LpI w0 (w1.setCell ⟨g, k * 3 + 2, none⟩ (.slice A' L[k].x.l.length c')) d (some ⟨g, 0, none⟩) c (k + 1) := by
  refine ⟨?_, (h.bel.trans (hb.mono h.bel.size)).setCell hC.glt.1 _, .inr ⟨g, _, rfl, hg, hC.step hk hb hR hn⟩⟩
  rw [heap_setCell_other _ _ _ _ hg]
  exact (hb.block _ h.zlt).trans h.cell
theorem LpI.bxt (h : LpI w0 w d A c d.box.length) : BxT w A d.box := by
  rcases h.box with ⟨h1, h2⟩ | ⟨g, L, h1, _, h2⟩
  · rw [h2]; exact BxT.nil _ _
  · rw [h1]; exact h2.bxt
end
theorem Fk.mapD {w w' : World} {K : Kk} {n m l nd : Nat} {S : Sb} {G : ByteArray → Option (Option Nat)} (h : Fk K w w') (x : Bk w K n m l S) (hM : Mp curC ptE w K.dm nd G) : Mp curC ptE w' K.dm nd G := by
  obtain ⟨es, cl, hq⟩ := hM.map?
  obtain ⟨pv, L, hc, _, _⟩ := x.led
  have hp : K.dm ≠ K.p := fun e => by
    have := hc.led.lg.cell
    rw [← e, hq] at this
    cases this
  exact hM.of_block ((h.blk _ _ hq hp x.ne.2.2.1 x.ne.2.2.2.1 (fun _ _ e => by cases e) (fun _ _ e => by cases e)).trans hq.symm)
/-- the bank's deals are read: it begins -/
theorem NwD.begins {w W wr : World} {K1 : Kk} {nm : ByteArray} {u : Su} {a : Sa} {nd n6 c6 bb : Nat} {A6 : Option Addr} {F : ByteArray → Option Nat} (h : NwD w W K1 nm u u.dl.length F nd wr) (hu : SuOk u) (hnm : nm.size ≤ 1048576) (hA : SuAt wr w.heap.size u a) (hP : PyT wr A6 (firsts [] u.par)) (hn6 : (firsts [] u.par).length = n6)
    (hn1 : K1.nm = nm) (hba : K1.base = w.heap.size) (hb : K1.bb = bb) (hK : K1.P = parF u.par ∧ K1.rest = u.rest ∧ K1.hol = u.hol) :
    Calls Tryz.prog 147 #[.pointer (some ⟨bb, 0, none⟩), .agg #[.slice a.PA u.par.length a.pc, .slice a.DA u.dl.length a.dc, .slice a.FA u.fd.length a.fc, .slice a.RA u.rest.length a.rc, .slice a.HA u.hol.length a.hc], .slice A6 n6 c6] wr fun e w' => e = .returned (.tuple #[]) ∧ NewP nm u w (.returned (.pointer (some ⟨bb, 0, none⟩))) w' := by
  subst hn6 hb
  have hx := h.bk
  rw [List.take_length] at hx
  have hk : KOk (ndK K1 (dlF nm u.dl) F) := ndK_ok hu hn1 hnm hK.1 hK.2.1 hK.2.2
  have hfl := firsts_len u.par
  have hup := hu.par
  have hbg := begin_any (K := ndK K1 (dlF nm u.dl) F) (D := fun _ => Dst.new) hx hk hu (a := a) (by show SuAt wr K1.base u a; rw [hba]; exact hA) c6 hP (by omega) (fun y hy => (hu.py y (firsts_mem hy)).1)
  refine hbg.mono ?_
  rintro e w' ⟨rfl, cs, h1, h2, h3, h4, h5⟩
  have hbe := h5.below
  have hbe2 : Below w.heap.size wr w' := by
    have e : (ndK K1 (dlF nm u.dl) F).base = w.heap.size := hba
    rw [e] at hbe
    exact hbe
  have hdl := hu.dl
  have hnd := h.nd
  exact ⟨rfl, ndK K1 (dlF nm u.dl) F, cs, rfl, hn1, hba, hK.1, rfl, hK.2.1, hK.2.2, hk, h1, h2, h3, h4, (h5.mapD hx h.mp).mono (by omega), h.bel.trans hbe2⟩
/-- the frame behind a region, slot by slot -/
theorem SameBut.puts {l : List Oper} {a0 a : Act} (h : SameBut l a0 a) (ds : List Tmp) (hd : l.filterMap (·.dst) = ds) : a = ds.foldl (fun b d => b.put (some d) (a.tmps.getD d undef)) a0 := by
  have e := h.frame
  rw [hd] at e
  have key : ∀ (ds : List Tmp) (b : Act), ds.foldl (fun b d => b.put (some d) (a.tmps.getD d undef)) b = ⟨ds.foldl (fun t d => t.setIfInBounds d (a.tmps.getD d undef)) b.tmps, b.defers⟩ := by
    intro ds
    induction ds with
    | nil => intro b; rfl
    | cons d ds ih => intro b; exact ih _
  rw [key]
  exact e
/-- what the operations give that lay a deal -/
def ndR22 (bb dm z n : Nat) (d : Dl) (A : Option Addr) (c : Nat) : Nat → Value → World → Prop
  | 0, v, _ => v = .pointer (some ⟨bb, 0, none⟩)
  | 1, v, _ => v = .pointer (some ⟨bb, 0, none⟩)
  | 2, v, _ => v = .pointer (some ⟨bb, 5, none⟩)
  | 3, v, _ => v = .map (some dm)
  | 4, v, _ => v = .pointer (some ⟨z, 0, none⟩)
  | 5, v, _ => v = .string d.num
  | 6, v, _ => v = .agg (dlA d A c)
  | 7, v, _ => v = .agg (dealA d A c Dst.new none 0 none 0)
  | 8, v, w => ∃ q, v = .pointer (some ⟨q, 0, none⟩) ∧ n ≤ q ∧ w.heap[q]? = some (.cells (dealA d A c Dst.new none 0 none 0) 225 (0, 0))
  | _, _, _ => True
theorem ndR22_kept {bb dm z n : Nat} {d : Dl} {A : Option Addr} {c : Nat} (i : Nat) (v : Value) (w w' : World) (hb : Below w.heap.size w w') (h : ndR22 bb dm z n d A c i v w) : ndR22 bb dm z n d A c i v w' := by
  match i, h with
  | 0, h => exact h
  | 1, h => exact h
  | 2, h => exact h
  | 3, h => exact h
  | 4, h => exact h
  | 5, h => exact h
  | 6, h => exact h
  | 7, h => exact h
  | 8, ⟨q, h1, h2, h3⟩ => exact ⟨q, h1, h2, (hb.block q (Array.getElem?_eq_some_iff.1 h3).1).trans h3⟩
  | n + 9, h => trivial
end Go.Proofs.YtchkdidpnjakeaaGreatDoor
namespace Go.Proofs.YtchkdidpnjakeaaGreatDoor
set_option linter.unusedVariables false

def nmOk (s : ByteArray) : Prop := nameB s.data.toList = true
/-- a party's bank is right -/
def BkOk (l : List Py) (p : Py) : Prop := if p.kd = 1 ∨ p.kd = 2 then p.bk.size = 0 else ∃ y, parF l p.bk = some y ∧ y.kd = 2
/-- a party by itself, behind those that stand ahead of it -/
def P1 (l : List Py) (i : Nat) (p : Py) : Prop := nmOk p.nm ∧ 0 ≤ p.kd ∧ p.kd ≤ 4 ∧ ∀ k q, k < i → l[k]? = some q → q.nm ≠ p.nm
structure PartiesOk (l : List Py) : Prop where
  few : 1 ≤ l.length ∧ l.length ≤ 16
  one : ∀ i p, l[i]? = some p → P1 l i p
  bank : ∀ p ∈ l, BkOk l p
def IsK (l : List Py) (s : ByteArray) (k : Int) : Prop := ∃ y, parF l s = some y ∧ y.kd = k
def bankF (l : List Py) (s : ByteArray) : ByteArray := match parF l s with | some y => y.bk | none => ⟨#[]⟩
def kindF (l : List Py) (s : ByteArray) : Int := match parF l s with | some y => y.kd | none => -1
def curOk (s : ByteArray) : Prop := codeB s = true
structure DealOk (l : List Py) (d : Dl) : Prop where
  num : nmOk d.num ∧ d.num.size ≤ 13
  who : d.sel ≠ d.buy ∧ IsK l d.sel 0 ∧ IsK l d.buy 0
  car : IsK l d.car 1
  iss : IsK l d.iss 2 ∧ bankF l d.buy = d.iss
  hou : d.hou.size = 0 ∨ IsK l d.hou 3
  ins : d.ins.size = 0 ∨ IsK l d.ins 4
  at_ : nmOk d.frm ∧ nmOk d.dst
  price : curOk d.cur ∧ 1 ≤ d.amt ∧ d.amt ≤ 1073741824
  trm : 0 ≤ d.trm ∧ d.trm ≤ 7
  days : 0 ≤ d.lat ∧ d.lat ≤ d.exp ∧ d.exp ≤ 1048576
  rest : 0 ≤ d.ten ∧ d.ten ≤ 1000 ∧ 0 ≤ d.dut ∧ d.dut ≤ 1000
/-- a text's byte -/
def bt (s : ByteArray) (k : Nat) : UInt8 := if h : k < s.size then s[k] else 0
theorem bt_eq {s : ByteArray} {k : Nat} (h : k < s.size) : bt s k = s[k] := dif_pos h
def mkV (i : Nat) (c : UInt8) : Nat := if i < 4 then c.toNat - 96 else c.toNat - 48
def mkH (i : Nat) (c : UInt8) : Prop := if i < 4 then 97 ≤ c.toNat ∧ c.toNat ≤ 122 else 48 ≤ c.toNat ∧ c.toNat ≤ 57
instance (i : Nat) (c : UInt8) : Decidable (mkH i c) := by unfold mkH; infer_instance
def digB (c : UInt8) : Prop := 48 ≤ c.toNat ∧ c.toNat ≤ 57
def sumTo (s : ByteArray) : Nat → Nat
  | 0 => 0
  | k + 1 => sumTo s k + mkV k (bt s k) * (k + 1)
def headOk (s : ByteArray) (k : Nat) : Prop := ∀ i, i < k → mkH i (bt s i)
theorem sumTo_le {s : ByteArray} : ∀ {k : Nat}, k ≤ 10 → sumTo s k ≤ 3000 * k
  | 0, _ => Nat.le_refl _
  | k + 1, h => by
    have h0 := sumTo_le (s := s) (k := k) (by omega)
    have h1 : mkV k (bt s k) ≤ 255 := by
      have := (bt s k).toNat_lt
      unfold mkV
      split <;> omega
    have h2 : mkV k (bt s k) * (k + 1) ≤ 255 * 10 := Nat.mul_le_mul h1 (by omega)
    simp only [sumTo]
    omega
/-- a right mark -/
structure MkOk (s : ByteArray) : Prop where
  size : s.size = 12
  head : headOk s 10
  d10 : digB (bt s 10)
  d11 : digB (bt s 11)
  sum : sumTo s 10 % 97 = 10 * ((bt s 10).toNat - 48) + ((bt s 11).toNat - 48)
structure BoxOk (b : Bx) : Prop where
  mark : MkOk b.m
  kind : 0 ≤ b.k ∧ b.k ≤ 1
  few : 1 ≤ b.l.length ∧ b.l.length ≤ 2
  lots : ∀ x ∈ b.l, nmOk x.g ∧ 1 ≤ x.c ∧ x.c ≤ 1048576
def marksOf (ds : List Dl) : List ByteArray := ds.flatMap fun d => d.box.map (·.m)
structure DealsOk (l : List Py) (ds : List Dl) : Prop where
  few : ds.length ≤ 16
  one : ∀ d ∈ ds, DealOk l d
  size : ∀ d ∈ ds, 1 ≤ d.box.length ∧ d.box.length ≤ 8
  nums : (ds.map (·.num)).Nodup
  box : ∀ d ∈ ds, ∀ b ∈ d.box, BoxOk b
  marks : (marksOf ds).Nodup
def curSum (c : ByteArray) : List Led.Ent → Int
  | [] => 0
  | e :: l => (if e.cur = c then e.n else 0) + curSum c l
structure FundsOk (l : List Py) (fd : List Led.Ent) : Prop where
  few : fd.length ≤ 64
  one : ∀ f ∈ fd, (bankF l f.acc).size ≠ 0 ∧ curOk f.cur ∧ 0 ≤ f.n
  sum : ∀ i f, fd[i]? = some f → curSum f.cur (fd.take (i + 1)) ≤ 68719476736
def Rz (l : List Int) (top : Int) : Prop := ∀ i x, l[i]? = some x → 0 ≤ x ∧ x ≤ top ∧ (0 < i → ∀ y, l[i - 1]? = some y → y < x)
structure MayP (u : Su) : Prop where
  par : PartiesOk u.par
  dl : DealsOk u.par u.dl
  fd : FundsOk u.par u.fd
  rest : Rz u.rest 6
  hol : Rz u.hol 1048576
theorem curSum_app (c : ByteArray) : ∀ (l m : List Led.Ent), curSum c (l ++ m) = curSum c l + curSum c m
  | [], m => by simp [curSum]
  | e :: l, m => by
    simp only [List.cons_append, curSum, curSum_app c l m]
    omega
theorem take_snoc' {α : Type} {l : List α} {k : Nat} {x : α} (h : l[k]? = some x) : l.take (k + 1) = l.take k ++ [x] := by
  rw [List.take_add_one, h]; rfl
theorem curSum_take {c : ByteArray} {l : List Led.Ent} {k : Nat} {e : Led.Ent} (h : l[k]? = some e) : curSum c (l.take (k + 1)) = curSum c (l.take k) + if e.cur = c then e.n else 0 := by
  rw [take_snoc' h, curSum_app]
  simp [curSum]
theorem curSum_nn {c : ByteArray} : ∀ {l : List Led.Ent}, (∀ e ∈ l, 0 ≤ e.n) → 0 ≤ curSum c l
  | [], _ => Int.le_refl _
  | e :: l, h => by
    have h1 := h e List.mem_cons_self
    have h2 := curSum_nn (c := c) (l := l) fun x hx => h x (List.mem_cons_of_mem _ hx)
    simp only [curSum]
    split <;> omega
end Go.Proofs.YtchkdidpnjakeaaGreatDoor
namespace Go.Proofs.YtchkdidpnjakeaaGreatDoor
open Go.RowKit Go.Lib
set_option linter.unusedVariables false
set_option maxRecDepth 100000

/-- a truth value comes back: whether T -/
def BoolQ (T : Prop) (w : World) (e : Ending) (w' : World) : Prop := ∃ r : Bool, e = .returned (.bool r) ∧ (r = true ↔ T) ∧ Below w.heap.size w w'
theorem BoolQ.no {T : Prop} {w W : World} (hT : ¬ T) (hb : Below w.heap.size w W) : BoolQ T w (.returned (.bool false)) W := ⟨false, rfl, ⟨fun h => (by cases h), fun h => absurd h hT⟩, hb⟩
theorem BoolQ.yes {T : Prop} {w W : World} (hT : T) (hb : Below w.heap.size w W) : BoolQ T w (.returned (.bool true)) W := ⟨true, rfl, ⟨fun _ => hT, fun _ => rfl⟩, hb⟩
theorem below_drewM {B : Nat} {a w : World} (h : Below B a w) (n : Nat) : Below B a (w.drewN n) := h.trans ⟨rfl, rfl, rfl, Nat.le_refl _, fun _ _ => rfl⟩
set_option maxHeartbeats 800000 in
theorem ref6Name_any (s : ByteArray) (w : World) (hs : s.size ≤ maxLen) :
    Calls Tryz.prog 33 #[.string s] w fun e w' => e = .returned (.bool (nameB s.data.toList)) ∧ w = w' := by
  unfold maxLen at hs
  have Hl := Lib.hid (show s.data.toList.length = s.size by simp)
  go_enter Tryz.func33, Tryz.ntmps33
  go_wp2
  go_loop [3] (fun i => ∃ k : Nat, k ≤ s.size ∧ i = .int .i64 k ∧ Hid ((s.data.toList.take k).all small = true)) (fun i => s.size - (RowKit.intOf i).toNat)
  case atStart => exact ⟨0, Nat.zero_le _, rfl, Lib.hid (by simp)⟩
  case round =>
    obtain ⟨k, hk, rfl, Hk⟩ := hrel
    by_cases hlt : k < s.size
    · have HS := Lib.hid (all_snoc s k hlt)
      have HB := Lib.hid (all_bad s k hlt)
      have Hc := Lib.hid (small_nat s[k])
      rcases byte_ways s[k].toNat with h | h | h | h | h | h | h
      all_goals
        first
          | have e45 : ((s[k].toNat : Int) == 45) = true := by simp; omega
          | have e45 : ((s[k].toNat : Int) == 45) = false := by simp; omega
        first
          | have d57 : decide ((s[k].toNat : Int) ≤ 57) = true := by simp; omega
          | have d57 : decide ((s[k].toNat : Int) ≤ 57) = false := by simp; omega
        first
          | have d122 : decide ((s[k].toNat : Int) ≤ 122) = true := by simp; omega
          | have d122 : decide ((s[k].toNat : Int) ≤ 122) = false := by simp; omega
        go_wp2
        first
          | (go_round
             case rel => exact ⟨k + 1, by omega, by go_num, Lib.hid (by rw [HS.out, Hk.out, Hc.out]; simp; omega)⟩
             case measure => simp [RowKit.intOf]; omega)
          | (go_ret
             exact ⟨by rw [nameB, HB.out (by rw [Hc.out]; simp; omega)]; simp, rfl⟩)
    · have Hw := Lib.hid (all_whole s k (by omega))
      rcases (show s.size < 1 ∨ (1 ≤ s.size ∧ s.size ≤ 16) ∨ 16 < s.size by omega) with h1 | h1 | h1
      all_goals
        first
          | have d1 : decide ((s.size : Int) ≤ 16) = true := by simp; omega
          | have d1 : decide ((s.size : Int) ≤ 16) = false := by simp; omega
        go_wp2
        go_ret
        exact ⟨by rw [nameB, ← Hw.out, Hk.out, Hl.out]; simp; omega, rfl⟩
end Go.Proofs.YtchkdidpnjakeaaGreatDoor
namespace Go.Proofs.YtchkdidpnjakeaaGreatDoor
open Go.RowKit Go.Maps Go.Lib
set_option linter.unusedVariables false
set_option maxRecDepth 100000

theorem Pys.more {w : World} {B B' : Nat} {A : Option Addr} {L : List Py} (h : Pys w B A L) (hB : B ≤ B') : Pys w B' A L := fun h0 => by
  obtain ⟨g, off, e, hg, hc⟩ := h h0
  exact ⟨g, off, e, by omega, hc⟩
theorem Dlw.more {w : World} {B B' : Nat} {A : Option Addr} {L : List Dl} (h : Dlw w B A L) (hB : B ≤ B') : Dlw w B' A L := fun hl => by
  obtain ⟨g, off, e, hg, hc⟩ := h hl
  refine ⟨g, off, e, by omega, fun i d hd => ?_⟩
  obtain ⟨A', c', h1, h2, h3⟩ := hc i d hd
  exact ⟨A', c', h1, h2.more hB, h3⟩
theorem It.more {w : World} {B B' : Nat} {A : Option Addr} {l : List Int} (h : It w B A l) (hB : B ≤ B') : It w B' A l := fun hl => by
  obtain ⟨g, off, e, hg, hc⟩ := h hl
  exact ⟨g, off, e, by omega, hc⟩
theorem SuAt.more {w : World} {B B' : Nat} {x : Su} {a : Sa} (h : SuAt w B x a) (hB : B ≤ B') : SuAt w B' x a := ⟨h.par.more hB, h.dl.more hB, fun h0 => by
  obtain ⟨g, off, e, hg, hc⟩ := h.fd h0
  exact ⟨g, off, e, by omega, hc⟩, h.rest.more hB, h.hol.more hB⟩
/-- what a call's box of a setup gives, in all worlds behind -/
structure SbX (w X : World) (u : Su) (a : Sa) : Prop where
  c0 : X.cell? ⟨w.heap.size, 0, none⟩ = some (.slice a.PA u.par.length a.pc)
  c1 : X.cell? ⟨w.heap.size, 1, none⟩ = some (.slice a.DA u.dl.length a.dc)
  c2 : X.cell? ⟨w.heap.size, 2, none⟩ = some (.slice a.FA u.fd.length a.fc)
  c3 : X.cell? ⟨w.heap.size, 3, none⟩ = some (.slice a.RA u.rest.length a.rc)
  c4 : X.cell? ⟨w.heap.size, 4, none⟩ = some (.slice a.HA u.hol.length a.hc)
  lt : w.heap.size < X.heap.size
  su : SuAt X w.heap.size u a
  bw : Below w.heap.size w X
  blk : X.heap[w.heap.size]? = some (.cells (suA u a) 29 (0, 0))
theorem SbX.of {w : World} {u : Su} {a : Sa} (hA : SuAt w w.heap.size u a) {W1 : World} (hW : W1 = w.alloc (.cells (suA u a) 29)) {X : World} (hX : Below W1.heap.size W1 X) : SbX w X u a := by
  have hb1 : Below w.heap.size w W1 := by rw [hW]; exact (Below.refl _ _).alloc (Nat.le_refl _) _
  have hst : W1.heap[w.heap.size]? = some (.cells (suA u a) 29 (0, 0)) := by rw [hW]; exact heap_alloc_new _ _
  have hsl : w.heap.size < W1.heap.size := (Array.getElem?_eq_some_iff.1 hst).1
  have h := (hX.block _ hsl).trans hst
  have hb := hb1.trans (hX.mono hb1.size)
  exact ⟨by simp [World.cell?, h, suA], by simp [World.cell?, h, suA], by simp [World.cell?, h, suA], by simp [World.cell?, h, suA], by simp [World.cell?, h, suA], Nat.lt_of_lt_of_le hsl hX.size, hA.below hb, hb, h⟩
theorem SbX.step {w X Y : World} {u : Su} {a : Sa} (h : SbX w X u a) (hb : Below X.heap.size X Y) : SbX w Y u a := by
  have hB : ∀ j, Y.cell? ⟨w.heap.size, j, none⟩ = X.cell? ⟨w.heap.size, j, none⟩ := fun j => hb.cell (p := ⟨w.heap.size, j, none⟩) h.lt
  exact ⟨(hB 0).trans h.c0, (hB 1).trans h.c1, (hB 2).trans h.c2, (hB 3).trans h.c3, (hB 4).trans h.c4, Nat.lt_of_lt_of_le h.lt hb.size, h.su.below (hb.mono (Nat.le_of_lt h.lt)), h.bw.trans (hb.mono (Nat.le_of_lt h.lt)), (hb.block _ h.lt).trans h.blk⟩
end Go.Proofs.YtchkdidpnjakeaaGreatDoor
namespace Go.Proofs.YtchkdidpnjakeaaGreatDoor
open Go.RowKit Go.Maps Go.Lib
set_option linter.unusedVariables false
set_option maxRecDepth 100000

theorem dlA_allM (d : Dl) (A : Option Addr) (c : Nat) : (dlA d A c).all (·.oneCell') = true := by simp [dlA, Value.oneCell']
/-- a list as a law's input may have it -/
structure SuB (u : Su) : Prop where
  par : u.par.length ≤ 100000000
  dl : u.dl.length ≤ 100000000
  fd : u.fd.length ≤ 100000000
  rest : u.rest.length ≤ 100000000
  hol : u.hol.length ≤ 100000000
  box : ∀ d ∈ u.dl, d.box.length ≤ 100000000 ∧ ∀ b ∈ d.box, b.l.length ≤ 100000000
def HvP (u : Su) (w : World) (e : Ending) (w' : World) : Prop := ∃ r : Bool, e = .returned (.bool r) ∧ (r = false → u.par.length ≤ 16 ∧ u.dl.length ≤ 6) ∧ Below w.heap.size w w'
set_option maxHeartbeats 8000000 in
theorem heavy50_any {w : World} {u : Su} {a : Sa} (hA : SuAt w w.heap.size u a) (hu : SuB u) :
    Calls Tryz.prog 14 #[.agg #[.slice a.PA u.par.length a.pc, .slice a.DA u.dl.length a.dc, .slice a.FA u.fd.length a.fc, .slice a.RA u.rest.length a.rc, .slice a.HA u.hol.length a.hc]] w fun e w' => HvP u w e w' := by
  obtain ⟨W1, hW1⟩ : ∃ W1, W1 = w.alloc (.cells #[.slice a.PA u.par.length a.pc, .slice a.DA u.dl.length a.dc, .slice a.FA u.fd.length a.fc, .slice a.RA u.rest.length a.rc, .slice a.HA u.hol.length a.hc] 29) := ⟨_, rfl⟩
  have HS : Hid (∀ X, Below W1.heap.size W1 X → SbX w X u a) := Lib.hid fun X hX => SbX.of hA hW1 hX
  have hp0 := hu.par
  have hd0 := hu.dl
  have HU := Lib.hid hu
  have HTr : Hid (∀ X, Below W1.heap.size W1 X → HvP u w (.returned (.bool true)) X) := Lib.hid fun X hX => ⟨true, rfl, fun h => (by cases h), (HS.out X hX).bw⟩
  have HFb : Hid (u.par.length ≤ 16 → u.dl.length ≤ 6 → ∀ X, Below W1.heap.size W1 X → HvP u w (.returned (.bool false)) X) := Lib.hid fun h1 h2 X hX => ⟨false, rfl, fun _ => ⟨h1, h2⟩, (HS.out X hX).bw⟩
  have HW := Lib.hid hW1
  clear hW1 hA hu
  generalize HvP u w = CP at *
  go_enter Tryz.func14, Tryz.ntmps14
  go_upto_region 1 with fail
  rw [← HW.out]
  clear HW
  obtain ⟨k0, k1, k2, k3, k4, kl, _, _⟩ := HS.out W1 (Below.refl _ _)
  have HT1 := Lib.hid (HTr.out W1 (Below.refl _ _))
  by_cases h1 : u.par.length ≤ 16
  · have b1 : ¬ (16 : Int) < (u.par.length : Int) := by omega
    by_cases h2 : u.dl.length ≤ 6
    · have b2 : ¬ (6 : Int) < (u.dl.length : Int) := by omega
      have HFa := Lib.hid (HFb.out h1 h2)
      clear HFb
      clear HT1
      go_wp2_with fail
      clear k0 k1 k2 k3 k4 b1 b2
      go_loopw [3] (fun i wr => ∃ k : Nat, k ≤ u.par.length ∧ i = .int .i64 (k : Int) ∧ wr = W1) (fun i _ => u.par.length - (RowKit.intOf i).toNat)
      case atStart => exact ⟨0, Nat.zero_le _, rfl, rfl⟩
      case round =>
        obtain ⟨k, hk, rfl, rfl⟩ := hrel
        obtain ⟨k0, k1, k2, k3, k4, kl, hsu, hbw⟩ := HS.out wr (Below.refl _ _)
        have HT1 := Lib.hid (HTr.out wr (Below.refl _ _))
        by_cases hlt : k < u.par.length
        · have b1 : (k : Int) < (u.par.length : Int) := by omega
          obtain ⟨g, off, hPA, hg, c0, c1, c2⟩ := hsu.par.at_ hlt
          have hgw : g < wr.heap.size := by omega
          generalize u.par[k] = y at *
          rw [hPA] at k0
          clear hPA
          clear hsu hbw HTr HFa HS HU
          by_cases g1 : (100 : Int) < (y.nm.size : Int)
          · go_wp2_with fail
            first
              | exact HT1.out
              | (go_ret; exact HT1.out)
          · by_cases g2 : (100 : Int) < (y.bk.size : Int)
            · go_wp2_with fail
              first
                | exact HT1.out
                | (go_ret; exact HT1.out)
            · go_wp2_with fail
              go_roundw
              case rel => exact ⟨k + 1, by omega, by go_num, by first | rfl | trivial⟩
              case measure => simp [RowKit.intOf] <;> omega
        · have b1 : ¬ (k : Int) < (u.par.length : Int) := by omega
          clear hk hlt
          go_wp2_with fail
          clear k0 k1 k2 k3 k4 hsu hbw b1 HT1
          have HB0 := Lib.hid (Below.refl wr.heap.size wr)
          rename World => W1
          go_loopw [4, 5, 6, 7, 8, 9] (fun i _ _ _ _ _ wr => ∃ k : Nat, k ≤ u.dl.length ∧ i = .int .i64 (k : Int) ∧ Hid (Below W1.heap.size W1 wr)) (fun i _ _ _ _ _ _ => u.dl.length - (RowKit.intOf i).toNat)
          case atStart => exact ⟨0, Nat.zero_le _, rfl, HB0⟩
          case round =>
            clear HB0
            obtain ⟨k, hk, rfl, HB⟩ := hrel
            obtain ⟨k0, k1, k2, k3, k4, kl, hsu, hbw⟩ := HS.out wr HB.out
            by_cases hlt : k < u.dl.length
            · have b1 : (k : Int) < (u.dl.length : Int) := by omega
              obtain ⟨d, hd⟩ : ∃ d, u.dl[k]? = some d := ⟨u.dl[k], List.getElem?_eq_getElem hlt⟩
              obtain ⟨g, off, A', c', hDA, hg, hc, hbx, hnil⟩ := hsu.dl.at_ hd
              have hgw : g < wr.heap.size := by omega
              have hbl := (HU.out.box d (List.mem_of_getElem? hd))
              rw [hDA] at k1
              clear hDA
              have HRg := Lib.hid (show wr.rangeAt g (off + k * 17) (dlA d A' c').toList from fun j v hv => hc j v (by simpa using hv))
              have HIb := Lib.hid (show (Tryz.prog.info? 72).map (·.size) = some (dlA d A' c').toList.length from infoDl17)
              have HIs := Lib.hid (show (Tryz.prog.info? 72).map (·.size) = some (dlA d A' c').size from infoDl17)
              have HOn := Lib.hid (dlA_allM d A' c')
              have HSz := Lib.hid (show 17 = (dlA d A' c').size from rfl)
              obtain ⟨wy, hwy⟩ : ∃ wy, wy = wr.alloc (.cells (dlA d A' c') 72) := ⟨_, rfl⟩
              obtain ⟨T, hT⟩ : ∃ T : Array Value, T = #[.string d.num, .string d.sel, .string d.buy, .string d.car, .string d.iss, .string d.hou, .string d.ins, .string d.frm, .string d.dst, .string d.cur] := ⟨_, rfl⟩
              obtain ⟨wx, hwx⟩ : ∃ wx, wx = wy.alloc (.cells T 9) := ⟨_, rfl⟩
              have hsy : wy.heap.size = wr.heap.size + 1 := by rw [hwy]; simp
              have hby : Below wr.heap.size wr wy := by rw [hwy]; exact (Below.refl _ _).alloc (Nat.le_refl _) _
              have hbx2 : Below wr.heap.size wr wx := by rw [hwx]; exact hby.alloc (by omega) _
              have hyb : wy.heap[wr.heap.size]? = some (.cells (dlA d A' c') 72 (0, 0)) := by rw [hwy]; exact heap_alloc_new _ _
              have hxy : Below wy.heap.size wy wx := by rw [hwx]; exact (Below.refl _ _).alloc (Nat.le_refl _) _
              have hxb : wx.heap[wr.heap.size]? = some (.cells (dlA d A' c') 72 (0, 0)) := (hxy.block _ (by omega)).trans hyb
              have hxt : wx.heap[wr.heap.size + 1]? = some (.cells T 9 (0, 0)) := by rw [hwx, ← hsy]; exact heap_alloc_new _ _
              have HTx := Lib.hid (HTr.out wx (HB.out.trans (hbx2.mono HB.out.size)))
              have HBx := Lib.hid (HB.out.trans (hbx2.mono HB.out.size))
              have HXs := Lib.hid (show Bxs wx w.heap.size A' d.box from hbx.kept (hbx2.mono (by omega)))
              have hxz : wr.heap.size + 1 < wx.heap.size := (Array.getElem?_eq_some_iff.1 hxt).1
              have HX11 : Hid (wx.cell? ⟨wr.heap.size, 11, none⟩ = some (.slice A' d.box.length c')) := Lib.hid (by simp [World.cell?, hxb, dlA])
              have HXT : Hid (∀ j, j < 10 → ∃ s : ByteArray, wx.cell? ⟨wr.heap.size + 1, j, none⟩ = some (.string s)) := Lib.hid fun j hj => by
                rw [hT] at hxt
                rcases (show j = 0 ∨ j = 1 ∨ j = 2 ∨ j = 3 ∨ j = 4 ∨ j = 5 ∨ j = 6 ∨ j = 7 ∨ j = 8 ∨ j = 9 by omega) with rfl | rfl | rfl | rfl | rfl | rfl | rfl | rfl | rfl | rfl <;> exact ⟨_, by simp [World.cell?, hxt]; rfl⟩
              have HWx : Hid ((wr.alloc (.cells (dlA d A' c') 72)).alloc (.cells #[.string d.num, .string d.sel, .string d.buy, .string d.car, .string d.iss, .string d.hou, .string d.ins, .string d.frm, .string d.dst, .string d.cur] 9) = wx) := Lib.hid (by rw [hwx, hwy, hT])
              have e0 : (wr.alloc (.cells (dlA d A' c') 72)).cell? ⟨wr.heap.size, 0, none⟩ = some (.string d.num) := by simp [dlA]
              have e1 : (wr.alloc (.cells (dlA d A' c') 72)).cell? ⟨wr.heap.size, 1, none⟩ = some (.string d.sel) := by simp [dlA]
              have e2 : (wr.alloc (.cells (dlA d A' c') 72)).cell? ⟨wr.heap.size, 2, none⟩ = some (.string d.buy) := by simp [dlA]
              have e3 : (wr.alloc (.cells (dlA d A' c') 72)).cell? ⟨wr.heap.size, 3, none⟩ = some (.string d.car) := by simp [dlA]
              have e4 : (wr.alloc (.cells (dlA d A' c') 72)).cell? ⟨wr.heap.size, 4, none⟩ = some (.string d.iss) := by simp [dlA]
              have e5 : (wr.alloc (.cells (dlA d A' c') 72)).cell? ⟨wr.heap.size, 5, none⟩ = some (.string d.hou) := by simp [dlA]
              have e6 : (wr.alloc (.cells (dlA d A' c') 72)).cell? ⟨wr.heap.size, 6, none⟩ = some (.string d.ins) := by simp [dlA]
              have e7 : (wr.alloc (.cells (dlA d A' c') 72)).cell? ⟨wr.heap.size, 7, none⟩ = some (.string d.frm) := by simp [dlA]
              have e8 : (wr.alloc (.cells (dlA d A' c') 72)).cell? ⟨wr.heap.size, 8, none⟩ = some (.string d.dst) := by simp [dlA]
              have e9 : (wr.alloc (.cells (dlA d A' c') 72)).cell? ⟨wr.heap.size, 9, none⟩ = some (.string d.cur) := by simp [dlA]
              have hwz : w.heap.size < wx.heap.size := by have := hbx2.size; omega
              clear hwy hT hwx hsy hby hbx2 hyb hxy hxb hxt hbx hnil hc hsu hbw hd HTr
              generalize dlA d A' c' = U at *
              go_wp2_with (first
                | (refine wpList_load_mid rfl 72 (.tmp 55) rfl g (off + k * 17) rfl U.toList _ HRg.out Tryz.underlying72 rfl HIb.out ?_)
                | (refine wpList_store_row rfl 72 (.tmp 5) (.tmp 56) rfl wr.heap.size U rfl rfl 72 _ (heap_alloc_new _ _) HIs.out HSz.out HOn.out ?_; rw [setRow_allocB])
                | fail)
              rw [HWx.out]
              clear HWx e0 e1 e2 e3 e4 e5 e6 e7 e8 e9 HRg HIb HIs HOn HSz
              clear k0 k1 k2 k3 k4 kl b1
              have hbl1 := hbl.1
              have HBL := Lib.hid hbl.2
              clear hbl
              go_wp2_with fail
              go_loopw [7] (fun i wr => ∃ j : Nat, j ≤ 10 ∧ i = .int .i64 (j : Int) ∧ wx = wr) (fun i _ => 10 - (RowKit.intOf i).toNat)
              case atStart => exact ⟨0, Nat.zero_le _, rfl, rfl⟩
              case round =>
                obtain ⟨j, hj, rfl, rfl⟩ := hrel
                by_cases hjl : j < 10
                · have b1 : (j : Int) < 10 := by omega
                  obtain ⟨s, hs⟩ := HXT.out j hjl
                  by_cases g1 : (100 : Int) < (s.size : Int)
                  · go_wp2_with fail
                    first
                      | exact HTx.out
                      | (go_ret; exact HTx.out)
                  · go_wp2_with fail
                    go_roundw
                    case rel => exact ⟨j + 1, by omega, by go_num, by first | rfl | trivial⟩
                    case measure => simp [RowKit.intOf] <;> omega
                · have b1 : ¬ (j : Int) < 10 := by omega
                  have k11 := HX11.out
                  by_cases g1 : (10 : Int) < (d.box.length : Int)
                  · go_wp2_with fail
                    first
                      | exact HTx.out
                      | (go_ret; exact HTx.out)
                  · clear hj hjl
                    go_wp2_with fail
                    clear b1 g1 k11
                    go_loopw [8, 9] (fun i _ wr => ∃ j : Nat, j ≤ d.box.length ∧ i = .int .i64 (j : Int) ∧ wx = wr) (fun i _ _ => d.box.length - (RowKit.intOf i).toNat)
                    case atStart => exact ⟨0, Nat.zero_le _, rfl, rfl⟩
                    case round =>
                      obtain ⟨q, hq, rfl, rfl⟩ := hrel
                      have k11 := HX11.out
                      by_cases hql : q < d.box.length
                      · have b1 : (q : Int) < (d.box.length : Int) := by omega
                        obtain ⟨b, hb⟩ : ∃ b, d.box[q]? = some b := ⟨d.box[q], List.getElem?_eq_getElem hql⟩
                        have hb1 := HBL.out b (List.mem_of_getElem? hb)
                        obtain ⟨g2, off2, hA2, hg2, hx2⟩ := HXs.out (by omega)
                        obtain ⟨A3, c3, m0, m1, m2, m3, m4⟩ := hx2 q b hb
                        have hg2w : g2 < wx.heap.size := by omega
                        rw [hA2] at k11
                        clear hA2
                        have HM2 := Lib.hid m2
                        have HM3 := Lib.hid m3
                        clear hx2 hb m1 m3 m4
                        by_cases g1 : (100 : Int) < (b.m.size : Int)
                        · go_wp2_with fail
                          first
                            | exact HTx.out
                            | (go_ret; exact HTx.out)
                        · by_cases g2 : (10 : Int) < (b.l.length : Int)
                          · go_wp2_with fail
                            first
                              | exact HTx.out
                              | (go_ret; exact HTx.out)
                          · go_wp2_with fail
                            clear g1 g2 m0
                            go_loopw [9] (fun i wr => ∃ n : Nat, n ≤ b.l.length ∧ i = .int .i64 (n : Int) ∧ wx = wr) (fun i _ => b.l.length - (RowKit.intOf i).toNat)
                            case atStart => exact ⟨0, Nat.zero_le _, rfl, rfl⟩
                            case round =>
                              obtain ⟨n, hn, rfl, rfl⟩ := hrel
                              by_cases hnl : n < b.l.length
                              · have b2 : (n : Int) < (b.l.length : Int) := by omega
                                obtain ⟨x, hx⟩ : ∃ x, b.l[n]? = some x := ⟨b.l[n], List.getElem?_eq_getElem hnl⟩
                                obtain ⟨g3, off3, hA3, hg3, hx3⟩ := HM3.out (by omega)
                                obtain ⟨n0, n1⟩ := hx3 n x hx
                                have hg3w : g3 < wx.heap.size := by omega
                                rw [hA3] at m2
                                clear hA3
                                clear hx3 hx n1
                                by_cases g1 : (100 : Int) < (x.g.size : Int)
                                · go_wp2_with fail
                                  first
                                    | exact HTx.out
                                    | (go_ret; exact HTx.out)
                                · go_wp2_with fail
                                  go_roundw
                                  case rel => exact ⟨n + 1, by omega, by go_num, by first | rfl | trivial⟩
                                  case measure => simp [RowKit.intOf] <;> omega
                              · have b2 : ¬ (n : Int) < (b.l.length : Int) := by omega
                                go_wp2_with fail
                                go_roundw
                                case rel => exact ⟨q + 1, by omega, by first | rfl | simp | go_num⟩
                                case measure => simp [RowKit.intOf] <;> omega
                      · have b1 : ¬ (q : Int) < (d.box.length : Int) := by omega
                        go_wp2_with fail
                        go_roundw
                        case rel => exact ⟨k + 1, by omega, by go_num, HBx⟩
                        case measure => simp [RowKit.intOf] <;> omega
            · have b1 : ¬ (k : Int) < (u.dl.length : Int) := by omega
              have HF1 := Lib.hid (HFa.out wr HB.out)
              go_wp2_with fail
              first
                | exact HF1.out
                | (go_ret; exact HF1.out)
    · have b2 : (6 : Int) < (u.dl.length : Int) := by omega
      go_wp2_with fail
      first
        | exact HT1.out
        | (go_ret; exact HT1.out)
  · have b1 : (16 : Int) < (u.par.length : Int) := by omega
    go_wp2_with fail
    first
      | exact HT1.out
      | (go_ret; exact HT1.out)
end Go.Proofs.YtchkdidpnjakeaaGreatDoor
