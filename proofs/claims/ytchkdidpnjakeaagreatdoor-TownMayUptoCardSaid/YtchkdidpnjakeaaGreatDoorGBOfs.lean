/- bank.ofMoney, bank.ofDeals: which letter is read by what. ledger.New, with its holds; the law's ledger at its beginning. bank.New: a bank that begins to stand; a party, a deal more. slices.Sorted(maps.Keys(m)) and slices.Sort of texts at this program: the library contracts, laid by the kit's tools (lay-iter, lay-plain). -/
import Derived.Test.YtchkdidpnjakeaaGreatDoorGBLz
import Derived.Test.YtchkdidpnjakeaaGreatDoorGAEnter
import Derived.Test.YtchkdidpnjakeaaGreatDoorGBCloneI
import Derived.Shelf.SlIter.Nil
import Derived.Shelf.SortM.Plain
import Derived.Shelf.SortM.SortNone
import Derived.Test.YtchkdidpnjakeaaGreatDoorProg
namespace Go.Proofs.YtchkdidpnjakeaaGreatDoor
open Go.RowKit Go.Maps Go.Lib
set_option linter.unusedVariables false
set_option maxRecDepth 100000

theorem turned_below {w0 W W' : World} {B q : Nat} (hb : Below B w0 W) (ht : W.mapTurned W' q) (hq : B ≤ q) (hB : B ≤ W.heap.size) : Below B w0 W' := hb.grown ht.grown hB (fun j hj => by cases hj; exact hq)
end Go.Proofs.YtchkdidpnjakeaaGreatDoor
namespace Go.Proofs.YtchkdidpnjakeaaGreatDoor.Led
open Go.RowKit Go.Maps Go.Lib
set_option linter.unusedVariables false
set_option maxRecDepth 100000

set_option maxHeartbeats 400000 in
theorem new_holds (s : ByteArray) (w : World) : Calls Tryz.prog 146 #[.string s] w fun e w' =>
    e = .returned (.pointer (some ⟨w.heap.size + 2, 0, none⟩)) ∧ Lh w' (w.heap.size + 2) w.heap.size (w.heap.size + 1) 0 0 (fun _ => none) (.slice none 0 0) (fun _ => none) ∧ Below w.heap.size w w' := by
  have hmm := @run_makeMap Tryz.prog
  go_enter Tryz.func146, Tryz.ntmps146
  go_wp2
  go_ret
  have h1 : (w.alloc (.map #[] 0)).heap.size = w.heap.size + 1 := by simp
  have h2 : ((w.alloc (.map #[] 0)).alloc (.map #[] 0)).heap.size = w.heap.size + 2 := by simp
  refine ⟨rfl, ⟨⟨?_, ((Mp.made w).alloc _).alloc _⟩, ?_, by omega⟩, (((Below.refl _ _).alloc (Nat.le_refl _) _).alloc (by rw [h1]; omega) _).alloc (by rw [h2]; omega) _⟩
  · have := (MapKept.heap_alloc ((w.alloc (.map #[] 0)).alloc (.map #[] 0)) (.cells #[.map (some w.heap.size), .slice none 0 0, .map (some (w.heap.size + 1))] 267)).1
    rw [h2] at this
    exact this
  · have := (Mp.made (C := curC) (E := hdE) (w.alloc (.map #[] 0))).alloc (.cells #[.map (some w.heap.size), .slice none 0 0, .map (some (w.heap.size + 1))] 267)
    rw [h1] at this
    exact this
end Go.Proofs.YtchkdidpnjakeaaGreatDoor.Led
namespace Go.Proofs.YtchkdidpnjakeaaGreatDoor
open Go.RowKit Go.Maps Go.Lib
set_option linter.unusedVariables false
set_option maxRecDepth 100000

/-- a map of another kind turns: the ledger stands -/
theorem Led.Lz.mapT {w w' : World} {base eb p b h n m l q : Nat} {G : Led.Nt → Option Ac} {H : List Hd} (x : Led.Lz w base eb p b h n m l G H) (hk : Led.Kp (fun k => k = q) w w') {es : Array MapEntry} {cl : Nat} (hq : w.heap[q]? = some (.map es cl)) (hb : q ≠ b) (hh : q ≠ h) : Led.Lz w' base eb p b h n m l G H := by
  obtain ⟨pv, L, hc, hL, hok⟩ := x
  have hled := hc.led
  have hcel : ∀ {r : Nat} {cs : Array Value} {t : TypeId} {fr : Nat × Nat}, w.heap[r]? = some (.cells cs t fr) → r ≠ q := fun {r cs t fr} hr e => by rw [e, hq] at hr; cases hr
  refine ⟨pv, L, ⟨⟨⟨⟨?_, ?_⟩, ?_, ?_, hled.out, hled.pb, hled.bb⟩, ?_, hc.ne, hc.hb⟩, Nat.le_trans hc.ebl hk.size, fun y hy ad ha => ?_⟩, hL, hok⟩
  · exact (hk.block p hled.lg.plt (hcel hled.lg.cell)).trans hled.lg.cell
  · exact hled.lg.acc.of_block (hk.block b hled.lg.blt (fun e => hb e.symm))
  · refine Led.ownsRow_kp hled.row hk fun k hk2 e => ?_
    rcases hled.row.2 with ⟨h0, _⟩ | ⟨g, cap, cur, he, _, hb2, _⟩
    · rw [h0] at hk2; simp [Value.ownBlock] at hk2
    · rw [he] at hk2
      simp [Value.ownBlock] at hk2
      subst hk2
      exact hcel hb2 e
  · intro y hy
    refine ⟨(hled.ents y hy).1.kp hk (fun ad ha => ?_), (hled.ents y hy).2⟩
    obtain ⟨cs', fr', he⟩ := hc.en y hy ad ha
    exact hcel he
  · exact hc.hs.of_block (hk.block h hc.hs.lt (fun e => hh e.symm))
  · obtain ⟨cs', fr', he⟩ := hc.en y hy ad ha
    exact ⟨cs', fr', (hk.block ad.block (Array.getElem?_eq_some_iff.1 he).1 (hcel he)).trans he⟩
/-- an empty ledger -/
theorem Led.Lz.zero {w : World} {base p b h : Nat} (x : Led.Lh w p b h 0 0 (fun _ => none) (.slice none 0 0) (fun _ => none)) (hp : base ≤ p) (hb : base ≤ b) (hh : base ≤ h) (hw : base ≤ w.heap.size) : Led.Lz w base base p b h 0 0 0 (fun _ => none) [] :=
  ⟨.slice none 0 0, [], ⟨⟨⟨x.lg, World.ownsRow_nil _ _ _ _, fun _ h => (by cases h), fun _ h => (by cases h), hp, hb⟩, x.hs, x.ne, hh⟩, hw, fun _ h => (by cases h)⟩, Nat.le_refl _, ⟨fun _ _ h => (by simp at h), fun _ h => (by simp at h), by simp⟩⟩
section
variable {w w' : World} {K : Kk} {n m l : Nat} {S : Sb}
theorem Mp.kq {P : Program} {k : TypeId} {α β : Type} {C : KeyC P k α} {E : ElC β} {r mm q : Nat} {F : α → Option β} (h : Mp C E w r mm F) (hk : Kq q w w') (hr : r ≠ q) : Mp C E w' r mm F := h.of_block (hk.block r h.lt hr)
theorem Kq.imM {q : Nat} (h : Kq q w w') {es : Array MapEntry} {cl : Nat} (hq : w.heap[q]? = some (.map es cl)) : Im w w' := fun k cs' t fr' hk ht => (h.block k (Array.getElem?_eq_some_iff.1 hk).1 (fun e => by rw [e, hq] at hk; cases hk)).trans hk
/-- the parties' map has turned -/
theorem Bk.addP (x : Bk w K n m l S) (hk : Kq K.pm w w') {np : Nat} {P' : ByteArray → Option Py} (hM : Mp curC pyE w' K.pm np P') (hn : np ≤ 1000) : Bk w' { K with P := P' } n m l S := by
  obtain ⟨np0, hp0, _⟩ := x.par
  obtain ⟨es, cl, hq⟩ := hp0.map?
  obtain ⟨n1, n2, n3, n4, n5⟩ := x.ne
  have hi := hk.imM hq
  have hcel : ∀ {r : Nat} {cs : Array Value} {t : TypeId} {fr : Nat × Nat}, w.heap[r]? = some (.cells cs t fr) → w'.heap[r]? = some (.cells cs t fr) := fun {r cs t fr} hr => (hk.block r (Array.getElem?_eq_some_iff.1 hr).1 (fun e => by rw [e, hq] at hr; cases hr)).trans hr
  refine ⟨hcel x.bank, x.led.mapT hk.kp hq n1 n2, ⟨np, hM, hn⟩, ?_, fun s q hs => ?_, x.dls, x.inj, x.rs.keep hi, x.hs.keep hi, x.ne, x.lo, ?_⟩
  · obtain ⟨nd, h1, h2⟩ := x.dmp
    exact ⟨nd, h1.kq hk (fun e => n5 e.symm), h2⟩
  · obtain ⟨d, A, c, PA, pc, FA, fc, h1, h2, h3, h4⟩ := x.deal s q hs
    exact ⟨d, A, c, PA, pc, FA, fc, h1, h2, h3, hcel h4.cell, h4.box.keep hi, h4.pp.keep hi, h4.ft.keep hi⟩
  · exact x.gb.low (B := 12) ⟨hk.os, hk.tape, hk.output, hk.size, fun k hk2 => hk.block k (by have := x.le; have := x.lo.1; omega) (by have := x.lo; omega)⟩ (Nat.le_refl _)
/-- a deal more -/
theorem Bk.addD (x : Bk w K n m l S) (hk : Kq K.dm w w') {q nd : Nat} {d : Dl} {A : Option Addr} {c : Nat} {PA : Option Addr} {pc : Nat} {FA : Option Addr} {fc : Nat} (hq : w.heap.size ≤ q) (hD : DealAt w' q d (S.D d.num) A c PA pc FA fc) (hno : K.blk d.num = none) (hM : Mp curC ptE w' K.dm nd (fun s => (putG K.blk d.num q s).map some)) (hn : nd ≤ 1000) : Bk w' { K with dl := putG K.dl d.num d, blk := putG K.blk d.num q } n m l S := by
  obtain ⟨nd0, hp0, _⟩ := x.dmp
  obtain ⟨es, cl, hqm⟩ := hp0.map?
  obtain ⟨n1, n2, n3, n4, n5⟩ := x.ne
  have hi := hk.imM hqm
  have hle := x.le
  have hcel : ∀ {r : Nat} {cs : Array Value} {t : TypeId} {fr : Nat × Nat}, w.heap[r]? = some (.cells cs t fr) → w'.heap[r]? = some (.cells cs t fr) := fun {r cs t fr} hr => (hk.block r (Array.getElem?_eq_some_iff.1 hr).1 (fun e => by rw [e, hqm] at hr; cases hr)).trans hr
  have hlt : ∀ s r, K.blk s = some r → r < w.heap.size := fun s r hs => by
    obtain ⟨d, A, c, PA, pc, FA, fc, h1, h2, h3, h4⟩ := x.deal s r hs
    exact h4.lt
  refine ⟨hcel x.bank, x.led.mapT hk.kp hqm n3 n4, ?_, ⟨nd, hM, hn⟩, fun s r hs => ?_, fun s hs => ?_, fun s t r hs ht => ?_, x.rs.keep hi, x.hs.keep hi, x.ne, x.lo, ?_⟩
  · obtain ⟨np, h1, h2⟩ := x.par
    exact ⟨np, h1.kq hk n5, h2⟩
  · by_cases e : s = d.num
    · subst e
      have hs2 : putG K.blk d.num q d.num = some r := hs
      rw [putG_same] at hs2
      injection hs2 with hs2
      subst hs2
      exact ⟨d, A, c, PA, pc, FA, fc, putG_same _ _ _, rfl, by show K.base ≤ q; omega, hD⟩
    · have hs2 : putG K.blk d.num q s = some r := hs
      rw [putG_other _ _ e] at hs2
      obtain ⟨d1, A1, c1, PA1, pc1, FA1, fc1, h1, h2, h3, h4⟩ := x.deal s r hs2
      exact ⟨d1, A1, c1, PA1, pc1, FA1, fc1, (putG_other _ _ e).trans h1, h2, h3, hcel h4.cell, h4.box.keep hi, h4.pp.keep hi, h4.ft.keep hi⟩
  · have hs2 : putG K.blk d.num q s = none := hs
    show putG K.dl d.num d s = none
    by_cases e : s = d.num
    · subst e
      rw [putG_same] at hs2
      cases hs2
    · rw [putG_other _ _ e] at hs2 ⊢
      exact x.dls s hs2
  · have hs2 : putG K.blk d.num q s = some r := hs
    have ht2 : putG K.blk d.num q t = some r := ht
    by_cases e : s = d.num
    · by_cases e2 : t = d.num
      · rw [e, e2]
      · subst e
        rw [putG_same] at hs2
        injection hs2 with hs2
        rw [putG_other _ _ e2] at ht2
        have := hlt t r ht2
        omega
    · rw [putG_other _ _ e] at hs2
      by_cases e2 : t = d.num
      · subst e2
        rw [putG_same] at ht2
        injection ht2 with ht2
        have := hlt s r hs2
        omega
      · rw [putG_other _ _ e2] at ht2
        exact x.inj s t r hs2 ht2
  · exact x.gb.low (B := 12) ⟨hk.os, hk.tape, hk.output, hk.size, fun k hk2 => hk.block k (by have := x.lo.1; omega) (by have := x.lo; omega)⟩ (Nat.le_refl _)
end
/-- the bank that New makes first -/
def newK (nm : ByteArray) (base bb z pm dm : Nat) (RA : Option Addr) (rc : Nat) (rest : List Int) (HA : Option Addr) (hc : Nat) (hol : List Int) : Kk := ⟨nm, base, base, bb, z + 2, z, z + 1, pm, dm, RA, rc, rest, HA, hc, hol, fun _ => none, fun _ => none, fun _ => none⟩
theorem Bk.start {w : World} {nm : ByteArray} {base bb z pm dm : Nat} {RA : Option Addr} {rc : Nat} {rest : List Int} {HA : Option Addr} {hc : Nat} {hol : List Int}
    (hb : w.heap[bb]? = some (.cells #[.string nm, .slice RA rest.length rc, .slice HA hol.length hc, .pointer (some ⟨z + 2, 0, none⟩), .map (some pm), .map (some dm)] 220 (0, 0)))
    (hL : Led.Lh w (z + 2) z (z + 1) 0 0 (fun _ => none) (.slice none 0 0) (fun _ => none)) (hP : Mp curC pyE w pm 0 (fun _ => none)) (hD : Mp curC ptE w dm 0 (fun _ => none)) (h1 : pm ≠ z) (h2 : pm ≠ z + 1) (h3 : dm ≠ z) (h4 : dm ≠ z + 1) (h5 : pm ≠ dm)
    (hR : ItT w RA rest) (hH : ItT w HA hol) (h12 : 12 ≤ base) (hbb : base ≤ bb) (hz : base ≤ z) (hpm : base ≤ pm) (hdm : base ≤ dm) (hg : Gb w) : Bk w (newK nm base bb z pm dm RA rc rest HA hc hol) 0 0 0 ⟨fun _ => none, [], fun _ => Dst.new⟩ :=
  ⟨hb, Led.Lz.zero hL (show base ≤ z + 2 by omega) hz (show base ≤ z + 1 by omega) (show base ≤ w.heap.size by have := hL.lg.blt; omega), ⟨0, hP, by omega⟩, ⟨0, hD, by omega⟩, fun _ _ h => (by cases h), fun _ _ => rfl, fun _ _ _ h => (by cases h), hR, hH, ⟨h1, h2, h3, h4, h5⟩, ⟨h12, hbb, hpm, hdm⟩, hg⟩
end Go.Proofs.YtchkdidpnjakeaaGreatDoor
namespace Go.Proofs
open Go.Shelf
def Tryz.keys182_ren : Go.Shelf.Ren := ⟨fun | 7 => 182 | 10 => 208 | n => n, fun | 23 => 67 | 26 => 9 | 3 => 4 | 28 => 270 | 0 => 0 | 27 => 269 | 33 => 92 | 4 => 4 | n => n, fun | n => n⟩
theorem Tryz.keys182 : Go.Proofs.SlLaysZ.n7 Tryz.prog Tryz.keys182_ren := {
  mixed := by kernel_rfl
  f7 := ⟨Tryz.f182.name, by decide, Tryz.func182.trans (congrArg some (by kernel_rfl))⟩
  f10 := ⟨Tryz.f208.name, by decide, Tryz.func208.trans (congrArg some (by kernel_rfl))⟩
  t0 := Tryz.underlying0
  a0 := Tryz.isAgg0
  z0 := Tryz.sizeOf0
  v0 := Tryz.zeroValue0
  t4 := Tryz.underlying4
  a4 := Tryz.isAgg4
  z4 := Tryz.sizeOf4
  v4 := Tryz.zeroValue4
  t23 := Tryz.underlying67
  a23 := Tryz.isAgg67
  z23 := Tryz.sizeOf67
  v23 := Tryz.zeroValue67
  t26 := Tryz.underlying9
  a26 := Tryz.isAgg9
  z26 := Tryz.sizeOf9
  v26 := Tryz.zeroValue9
  t27 := Tryz.underlying269
  a27 := Tryz.isAgg269
  z27 := Tryz.sizeOf269
  v27 := Tryz.zeroValue269
  t28 := Tryz.underlying270
  a28 := Tryz.isAgg270
  z28 := Tryz.sizeOf270
  v28 := Tryz.zeroValue270
  t33 := Tryz.underlying92
  a33 := Tryz.isAgg92
  z33 := Tryz.sizeOf92
  v33 := Tryz.zeroValue92 }
def Tryz.sorted181_ren : Go.Shelf.Ren := ⟨fun | 6 => 181 | 8 => 207 | 9 => 20 | 11 => 243 | 13 => 48 | 12 => 47 | 23 => 96 | 24 => 97 | 14 => 87 | 15 => 88 | 16 => 89 | 17 => 90 | 18 => 91 | 19 => 92 | 20 => 93 | 21 => 94 | 22 => 95 | 25 => 127 | 26 => 128 | 27 => 129 | 28 => 130 | 29 => 131 | 30 => 132 | 31 => 157 | n => n, fun | 26 => 9 | 28 => 270 | 24 => 47 | 0 => 0 | 3 => 3 | 37 => 107 | 48 => 146 | 50 => 148 | 4 => 4 | 40 => 139 | 39 => 138 | 45 => 115 | 5 => 5 | 9 => 9 | 51 => 180 | 55 => 184 | 57 => 241 | 58 => 242 | 33 => 92 | n => n, fun | n => n⟩
theorem Tryz.sorted181 : Go.Proofs.SlLaysZ.n6 Tryz.prog Tryz.sorted181_ren := {
  mixed := by kernel_rfl
  f6 := ⟨Tryz.f181.name, by decide, Tryz.func181.trans (congrArg some (by kernel_rfl))⟩
  f8 := ⟨Tryz.f207.name, by decide, Tryz.func207.trans (congrArg some (by kernel_rfl))⟩
  f11 := ⟨Tryz.f243.name, by decide, Tryz.func243.trans (congrArg some (by kernel_rfl))⟩
  t0 := Tryz.underlying0
  a0 := Tryz.isAgg0
  z0 := Tryz.sizeOf0
  v0 := Tryz.zeroValue0
  t24 := Tryz.underlying47
  a24 := Tryz.isAgg47
  z24 := Tryz.sizeOf47
  v24 := Tryz.zeroValue47
  t26 := Tryz.underlying9
  a26 := Tryz.isAgg9
  z26 := Tryz.sizeOf9
  v26 := Tryz.zeroValue9
  t28 := Tryz.underlying270
  a28 := Tryz.isAgg270
  z28 := Tryz.sizeOf270
  v28 := Tryz.zeroValue270
  i26 := by kernel_rfl }
def Tryz.sort20_ren : Go.Shelf.Ren := ⟨fun | 6 => 20 | 8 => 48 | 9 => 47 | 19 => 96 | 20 => 97 | 21 => 87 | 22 => 88 | 23 => 89 | 24 => 90 | 25 => 91 | 26 => 92 | 27 => 93 | 28 => 94 | 29 => 95 | 36 => 127 | 31 => 128 | 32 => 129 | 37 => 130 | 38 => 131 | 39 => 132 | 41 => 157 | n => n, fun | 27 => 47 | 29 => 9 | 3 => 3 | 32 => 107 | 26 => 47 | 0 => 0 | 44 => 146 | 46 => 148 | 4 => 4 | 36 => 139 | 35 => 138 | 41 => 115 | 5 => 5 | 9 => 9 | 53 => 180 | 57 => 184 | 63 => 241 | 64 => 242 | n => n, fun | n => n⟩
theorem Tryz.sort20 : Go.Proofs.SlLaysM.n6 Tryz.prog Tryz.sort20_ren := {
  mixed := by kernel_rfl
  f6 := ⟨Tryz.f20.name, by decide, Tryz.func20.trans (congrArg some (by kernel_rfl))⟩
  f8 := Tryz.func48.trans (congrArg some (by kernel_rfl))
  f9 := ⟨Tryz.f47.name, by decide, Tryz.func47.trans (congrArg some (by kernel_rfl))⟩
  f19 := Tryz.func96.trans (congrArg some (by kernel_rfl))
  f20 := Tryz.func97.trans (congrArg some (by kernel_rfl))
  f21 := ⟨Tryz.f87.name, by decide, Tryz.func87.trans (congrArg some (by kernel_rfl))⟩
  f22 := ⟨Tryz.f88.name, by decide, Tryz.func88.trans (congrArg some (by kernel_rfl))⟩
  f23 := ⟨Tryz.f89.name, by decide, Tryz.func89.trans (congrArg some (by kernel_rfl))⟩
  f24 := ⟨Tryz.f90.name, by decide, Tryz.func90.trans (congrArg some (by kernel_rfl))⟩
  f25 := ⟨Tryz.f91.name, by decide, Tryz.func91.trans (congrArg some (by kernel_rfl))⟩
  f26 := ⟨Tryz.f92.name, by decide, Tryz.func92.trans (congrArg some (by kernel_rfl))⟩
  f27 := ⟨Tryz.f93.name, by decide, Tryz.func93.trans (congrArg some (by kernel_rfl))⟩
  f28 := ⟨Tryz.f94.name, by decide, Tryz.func94.trans (congrArg some (by kernel_rfl))⟩
  f29 := ⟨Tryz.f95.name, by decide, Tryz.func95.trans (congrArg some (by kernel_rfl))⟩
  f31 := Tryz.func128.trans (congrArg some (by kernel_rfl))
  f32 := Tryz.func129.trans (congrArg some (by kernel_rfl))
  f36 := ⟨Tryz.f127.name, by decide, Tryz.func127.trans (congrArg some (by kernel_rfl))⟩
  f37 := ⟨Tryz.f130.name, by decide, Tryz.func130.trans (congrArg some (by kernel_rfl))⟩
  f38 := ⟨Tryz.f131.name, by decide, Tryz.func131.trans (congrArg some (by kernel_rfl))⟩
  f39 := ⟨Tryz.f132.name, by decide, Tryz.func132.trans (congrArg some (by kernel_rfl))⟩
  f41 := ⟨Tryz.f157.name, by decide, Tryz.func157.trans (congrArg some (by kernel_rfl))⟩
  t0 := Tryz.underlying0
  a0 := Tryz.isAgg0
  z0 := Tryz.sizeOf0
  v0 := Tryz.zeroValue0
  t3 := Tryz.underlying3
  a3 := Tryz.isAgg3
  z3 := Tryz.sizeOf3
  v3 := Tryz.zeroValue3
  t4 := Tryz.underlying4
  a4 := Tryz.isAgg4
  z4 := Tryz.sizeOf4
  v4 := Tryz.zeroValue4
  t5 := Tryz.underlying5
  a5 := Tryz.isAgg5
  z5 := Tryz.sizeOf5
  v5 := Tryz.zeroValue5
  t9 := Tryz.underlying9
  a9 := Tryz.isAgg9
  z9 := Tryz.sizeOf9
  v9 := Tryz.zeroValue9
  t26 := Tryz.underlying47
  a26 := Tryz.isAgg47
  z26 := Tryz.sizeOf47
  v26 := Tryz.zeroValue47
  t27 := Tryz.underlying47
  a27 := Tryz.isAgg47
  z27 := Tryz.sizeOf47
  v27 := Tryz.zeroValue47
  t29 := Tryz.underlying9
  a29 := Tryz.isAgg9
  z29 := Tryz.sizeOf9
  v29 := Tryz.zeroValue9
  t32 := Tryz.underlying107
  a32 := Tryz.isAgg107
  z32 := Tryz.sizeOf107
  v32 := Tryz.zeroValue107
  t35 := Tryz.underlying138
  a35 := Tryz.isAgg138
  z35 := Tryz.sizeOf138
  v35 := Tryz.zeroValue138
  t36 := Tryz.underlying139
  a36 := Tryz.isAgg139
  z36 := Tryz.sizeOf139
  v36 := Tryz.zeroValue139
  t41 := Tryz.underlying115
  a41 := Tryz.isAgg115
  z41 := Tryz.sizeOf115
  v41 := Tryz.zeroValue115
  t44 := Tryz.underlying146
  a44 := Tryz.isAgg146
  z44 := Tryz.sizeOf146
  v44 := Tryz.zeroValue146
  t46 := Tryz.underlying148
  a46 := Tryz.isAgg148
  z46 := Tryz.sizeOf148
  v46 := Tryz.zeroValue148
  t53 := Tryz.underlying180
  a53 := Tryz.isAgg180
  z53 := Tryz.sizeOf180
  v53 := Tryz.zeroValue180
  t57 := Tryz.underlying184
  a57 := Tryz.isAgg184
  z57 := Tryz.sizeOf184
  v57 := Tryz.zeroValue184
  t63 := Tryz.underlying241
  a63 := Tryz.isAgg241
  z63 := Tryz.sizeOf241
  v63 := Tryz.zeroValue241
  t64 := Tryz.underlying242
  a64 := Tryz.isAgg242
  z64 := Tryz.sizeOf242
  v64 := Tryz.zeroValue242 }
open Go.RowKit Go.Maps Go.Sort Go.Shelf in
theorem Tryz.sorts181 (m : Nat) : AnyZ.SortsIn Tryz.prog Tryz.sorted181_ren Fence.wide m :=
  ⟨fun blk off cap ss W hH hblk hsz => callsIn_wide.2 (AnyM.slices_Sort_string Tryz.sort20 blk off cap ss W hH hblk hsz),
   fun p cap W => callsIn_wide.2 (AnyM.slices_Sort_string_none Tryz.sort20 p cap W)⟩
open Go.RowKit Go.Maps Go.Sort Go.Shelf in
theorem Tryz.maps_Keys_182 (mb : Option Nat) (W : World) : CallsIn Fence.wide 5 Tryz.prog 182 #[.map mb] W fun e w' => e = .returned (.func (.func 208) #[] #[.pointer (some ⟨W.heap.size, 0, none⟩)]) ∧ w' = W.alloc (.cells #[.map mb] 67) :=
  AnyZ.keys_in Tryz.keys182 Fence.wide 5 trivial rfl mb W
open Go.RowKit Go.Maps Go.Sort Go.Shelf in
theorem Tryz.slices_Sorted_keys_181_182 {H : Type} (b nn : Nat) (D0 : DataW H) (R : Value → Option (DataW H × List MemPlace)) (w : World) (hown : w.ownsMap Tryz.prog 9 R b nn D0) (hmax : Maps.size D0 ≤ maxLen) (hbytes : Maps.size D0 * 16 ≤ 140737488355328) :
    CallsIn Fence.wide 5 Tryz.prog 181 #[.func (.func 208) #[] #[.pointer (some ⟨w.heap.size, 0, none⟩)]] (w.alloc (.cells #[.map (some b)] 67)) fun e w' => ∃ (v : Value) (ss : List (List UInt8)), e = .returned v ∧ ss.Perm (strKeys D0) ∧
      w'.ownsRow (w.alloc (.cells #[.map (some b)] 67)).heap.size 9 1 v ss.length ((ss.mergeSort (fun x y => decide (x ≤ y))).map encStr) ∧ (v = .slice none 0 0 ↔ ss = []) ∧ Below (w.alloc (.cells #[.map (some b)] 67)).heap.size (w.alloc (.cells #[.map (some b)] 67)) w' := by
  have hbl := hown.lt
  have hseq : SeqGives Fence.wide 2 Tryz.prog 208 #[.pointer (some ⟨w.heap.size, 0, none⟩)] encStr (fun ss => ss.Perm (strKeys D0)) (Maps.size D0) (w.alloc (.cells #[.map (some b)] 67)) :=
    AnyZ.keys_gives (ρ := Tryz.keys182_ren) { Tryz.keys182 with } Fence.wide _ trivial rfl (by omega) w.heap.size b nn D0 _ (by simp) (by simp) (by
      obtain ⟨es, clock, hb, Ft, hs, hD⟩ := hown
      exact ⟨es, clock, (Below.heap_alloc _ _ b hbl).trans hb, Ft, hs, hD⟩)
  exact AnyZ.sorted_in Tryz.sorted181 Fence.wide 5 trivial trivial trivial trivial rfl (by omega) (Tryz.sorts181 _) (enters_of Tryz.func20 (by kernel_rfl) rfl) 208 #[.pointer (some ⟨w.heap.size, 0, none⟩)] trivial (enters_of Tryz.func208 (by kernel_rfl) rfl) _ _ hmax hbytes _ hseq
end Go.Proofs
