/- The law AuditCredits, walked. The law AuditCredits, walked: its body. -/
import Derived.Test.YtooeelaobmhifaaGreatDoorCCred
import Derived.Test.YtooeelaobmhifaaGreatDoorCRefCr
import Derived.Test.YtooeelaobmhifaaGreatDoorAAwake
namespace Go.Proofs.YtooeelaobmhifaaGreatDoor
open Go.RowKit Go.Maps Go.Lib
set_option linter.unusedVariables false
set_option maxRecDepth 100000

theorem takeX5_idOf {t : ByteArray} (h : isCr t = true) : takeX5 (idOf t) = t := by
  rw [isCr_is, Bool.and_eq_true] at h
  have h3 := h.1
  simp only [Lib.hasPrefix, List.isPrefixOf_iff_prefix] at h3
  obtain ⟨r, e⟩ := h3
  apply tl_inj
  rw [ByteArray.toList_eq, ByteArray.toList_eq, ← e]
  unfold takeX5
  rw [idOf_is, ← e]
  simp [ByteArray.data_append]
theorem credits_same (name : ByteArray) (txt : List ByteArray) (hs xs : List Hd) (f : ByteArray → Option Int) (keys ids : List ByteArray) (hS : Srt keys) (hK : ∀ x, x ∈ keys ↔ cntT txt x ≠ 0) (hV : ValsOf (holdsF f) xs) (hP : hs.Perm xs) (hf : ∀ i, (f i).isSome = true → i ∈ ids) (his : ∀ i ∈ ids, i.size ≤ 1000) :
    auditC name keys (cntT txt) (fun x => (f x).isSome) = linesC name txt hs (idsOf txt) := by
  have hK' : ∀ x, x ∈ keys ↔ ∃ t ∈ txt, isCr t = true ∧ x = idOf t := by
    intro x
    rw [hK x]
    constructor
    · intro hx
      obtain ⟨t, ht1, ht2⟩ := List.countP_pos_iff.1 (Nat.pos_of_ne_zero hx)
      simp only [Bool.and_eq_true, decide_eq_true_eq] at ht2
      exact ⟨t, ht1, ht2.1, ht2.2.symm⟩
    · rintro ⟨t, ht, hc, rfl⟩
      have : 0 < cntT txt (idOf t) := List.countP_pos_iff.2 ⟨t, ht, by simp [hc]⟩
      omega
  obtain ⟨h1, h2⟩ := vals_ids hV hf his
  refine credits_law name txt hs keys (cntT txt) _ hS hK' ?_ ?_ ?_
  · intro id hid
    obtain ⟨t, ht, hc, rfl⟩ := (hK' id).1 hid
    have hc' : isCr (takeX5 (idOf t)) = true := by rw [takeX5_idOf hc]; exact hc
    unfold cntT countT
    refine List.countP_congr fun y hy => ?_
    rw [isTake_is (idOf t) y hc']
  · exact (hP.map (fun h : Hd => h.id)).nodup_iff.2 h1
  · intro id _
    rw [← h2 id]
    constructor
    · rintro ⟨y, hy, e⟩; exact ⟨y, hP.mem_iff.2 hy, e⟩
    · rintro ⟨y, hy, e⟩; exact ⟨y, hP.mem_iff.1 hy, e⟩
/-- an act: kind, id, sum -/
structure Ac3 where
  kind : Nat
  id : Nat
  n : Nat
structure Ac3.Fine (a : Ac3) : Prop where
  kind : a.kind < 256
  id : a.id < 256
  n : a.n < 65536
/-- the slice's elements are the acts T, in blocks below B -/
def Ra (w : World) (B : Nat) (A : Option Addr) (T : List Ac3) : Prop :=
  0 < T.length → ∃ g off, A = some ⟨g, off, none⟩ ∧ g < B ∧ ∀ i a, T[i]? = some a → w.cell? ⟨g, off + i * 3, none⟩ = some (.int .u8 (a.kind : Nat)) ∧ w.cell? ⟨g, off + i * 3 + 1, none⟩ = some (.int .u8 (a.id : Nat)) ∧ w.cell? ⟨g, off + i * 3 + 2, none⟩ = some (.int .u16 (a.n : Nat))
theorem Ra.below {w w' : World} {B : Nat} {A : Option Addr} {T : List Ac3} (h : Ra w B A T) (hb : Below B w w') : Ra w' B A T := fun hl => by
  obtain ⟨g, off, e, hg, hc⟩ := h hl
  exact ⟨g, off, e, hg, fun i x hx => ⟨(hb.cell (p := ⟨g, _, none⟩) hg).trans (hc i x hx).1, (hb.cell (p := ⟨g, _, none⟩) hg).trans (hc i x hx).2.1, (hb.cell (p := ⟨g, _, none⟩) hg).trans (hc i x hx).2.2⟩⟩
def id0 : ByteArray := ⟨#[99, 114, 101, 100, 105, 116, 58, 100, 49]⟩
def id1 : ByteArray := ⟨#[99, 114, 101, 100, 105, 116, 58, 100, 50]⟩
def id2 : ByteArray := ⟨#[111, 116, 104, 101, 114]⟩
def id3 : ByteArray := ⟨#[99, 114, 101, 100, 105, 116]⟩
def ids4 : List ByteArray := [id0, id1, id2, id3]
theorem ids4_good : ∀ i ∈ ids4, GoodName i ∧ i.size ≤ 32 := by
  intro i hi
  simp only [ids4, List.mem_cons, List.mem_nil_iff, or_false] at hi
  rcases hi with rfl | rfl | rfl | rfl
  · exact ⟨goodName_of [99, 114, 101, 100, 105, 116, 58, 100, 49] (by decide) (by decide) (by decide), by decide⟩
  · exact ⟨goodName_of [99, 114, 101, 100, 105, 116, 58, 100, 50] (by decide) (by decide) (by decide), by decide⟩
  · exact ⟨goodName_of [111, 116, 104, 101, 114] (by decide) (by decide) (by decide), by decide⟩
  · exact ⟨goodName_of [99, 114, 101, 100, 105, 116] (by decide) (by decide) (by decide), by decide⟩
abbrev idsObj : Obj := .cells #[.string id0, .string id1, .string id2, .string id3] 9
theorem ids_cell (W : World) (q : Nat) (hq : q < 4) : ∃ i ∈ ids4, (W.alloc idsObj).cell? ⟨W.heap.size, q, none⟩ = some (.string i) := by
  match q, hq with
  | 0, _ => exact ⟨id0, by simp [ids4], by simp⟩
  | 1, _ => exact ⟨id1, by simp [ids4], by simp⟩
  | 2, _ => exact ⟨id2, by simp [ids4], by simp⟩
  | 3, _ => exact ⟨id3, by simp [ids4], by simp⟩
/-- how the law's ledger stands behind k acts -/
structure Sv (w wr : World) (base p k : Nat) : Prop where
  cs : ∃ f txt, Cs wr base p f txt (2 * k) ∧ (∀ i, (f i).isSome = true → i ∈ ids4) ∧ ∀ t ∈ txt, ByteArray.size t ≤ 100
  bel : Below base w wr
theorem Sv.alloc {w wr : World} {base p k : Nat} (h : Sv w wr base p k) (o : Obj) : Sv w (wr.alloc o) base p k := by
  obtain ⟨f, txt, h1, h2, h3⟩ := h.cs
  have hb := (Below.refl wr.heap.size wr).alloc (Nat.le_refl _) o
  exact ⟨⟨f, txt, h1.below hb, h2, h3⟩, h.bel.trans (hb.mono h1.base_le)⟩
theorem sup_put {f : ByteArray → Option Int} (h : ∀ i, (f i).isSome = true → i ∈ ids4) {id : ByteArray} (hi : id ∈ ids4) (s : Int) : ∀ i, (putG f id s i).isSome = true → i ∈ ids4 := by
  intro i hx
  by_cases e : i = id
  · rw [e]; exact hi
  · rw [putG_other _ _ e] at hx; exact h i hx
theorem sup_del {f : ByteArray → Option Int} (h : ∀ i, (f i).isSome = true → i ∈ ids4) (id : ByteArray) : ∀ i, (delG f id i).isSome = true → i ∈ ids4 := by
  intro i hx
  unfold delG at hx
  split at hx
  · simp at hx
  · exact h i hx
theorem sv_hold (id : ByteArray) (sum : Nat) (w wr : World) (base p k : Nat) (h : Sv w wr base p k) (hk : k ≤ 40) (hi : id ∈ ids4) (hs : sum < 65536) :
    Calls Tryz.prog 9 #[.pointer (some ⟨p, 0, none⟩), .string id, .string ⟨#[97]⟩, .string ⟨#[69, 85, 82]⟩, .int .i64 (sum : Nat)] wr fun e w' => (∃ v, e = .returned (.int .i64 v)) ∧ Sv w w' base p (k + 1) := by
  obtain ⟨f, txt, h1, h2, h3⟩ := h.cs
  refine (hold_cs id sum wr base p (2 * k) f txt h1 (by omega) (ids4_good id hi).1 (by omega) (by omega)).mono ?_
  rintro e w' ⟨hv, hc, hb⟩
  refine ⟨hv, ⟨_, txt, hc, ?_, h3⟩, h.bel.trans hb⟩
  intro i hx
  cases hfi : f id with
  | some a =>
    simp only [holdF, hfi] at hx
    exact h2 i hx
  | none =>
    simp only [holdF, hfi] at hx
    by_cases e1 : 1 ≤ (sum : Int)
    · rw [if_pos e1] at hx
      exact sup_put h2 hi _ i hx
    · rw [if_neg e1] at hx
      exact h2 i hx
theorem sv_take (id : ByteArray) (sum : Nat) (w wr : World) (base p k : Nat) (h : Sv w wr base p k) (hk : k ≤ 40) (hi : id ∈ ids4) (hs : sum < 65536) :
    Calls Tryz.prog 7 #[.pointer (some ⟨p, 0, none⟩), .string id, .string ⟨#[98]⟩, .int .i64 (sum : Nat)] wr fun e w' => (∃ v, e = .returned (.int .i64 v)) ∧ Sv w w' base p (k + 1) := by
  obtain ⟨f, txt, h1, h2, h3⟩ := h.cs
  have hid := (ids4_good id hi).2
  refine (take_cs id sum wr base p (2 * k) f txt h1 (by omega) (by omega) (by omega) (by omega)).mono ?_
  rintro e w' ⟨hv, hc, hb⟩
  refine ⟨hv, ⟨_, _, hc, ?_, ?_⟩, h.bel.trans hb⟩
  · intro i hx
    cases hfi : f id with
    | none =>
      simp only [takeF, hfi] at hx
      exact h2 i hx
    | some a =>
      simp only [takeF, hfi] at hx
      by_cases e1 : 1 ≤ (sum : Int) ∧ (sum : Int) ≤ a
      · rw [if_pos e1] at hx
        by_cases e2 : a - (sum : Int) = 0
        · rw [if_pos e2] at hx
          exact sup_del h2 id i hx
        · rw [if_neg e2] at hx
          exact sup_put h2 hi _ i hx
      · rw [if_neg e1] at hx
        exact h2 i hx
  · intro t ht
    cases hfi : f id with
    | none =>
      simp only [takeX, hfi] at ht
      exact h3 t ht
    | some a =>
      simp only [takeX, hfi] at ht
      by_cases e1 : 1 ≤ (sum : Int) ∧ (sum : Int) ≤ a
      · rw [if_pos e1] at ht
        rcases List.mem_append.1 ht with ht | ht
        · exact h3 t ht
        · simp only [List.mem_cons, List.mem_nil_iff, or_false] at ht
          rw [ht]
          have e5 : (⟨#[116, 97, 107, 101, 32]⟩ : ByteArray).size = 5 := rfl
          unfold takeT
          rw [ByteArray.size_append, e5]
          omega
      · rw [if_neg e1] at ht
        exact h3 t ht
theorem sv_let (id : ByteArray) (w wr : World) (base p k : Nat) (h : Sv w wr base p k) (hk : k ≤ 40) (hi : id ∈ ids4) :
    Calls Tryz.prog 8 #[.pointer (some ⟨p, 0, none⟩), .string id] wr fun e w' => (∃ v, e = .returned (.int .i64 v)) ∧ Sv w w' base p (k + 1) := by
  obtain ⟨f, txt, h1, h2, h3⟩ := h.cs
  have hid := (ids4_good id hi).2
  refine (let_cs id wr base p (2 * k) f txt h1 (by omega) (by omega)).mono ?_
  rintro e w' ⟨hv, hc, hb⟩
  exact ⟨hv, ⟨_, txt, hc.same (Below.refl _ _), sup_del h2 id, h3⟩, h.bel.trans hb⟩
/-- the ledger, with its two accounts -/
theorem open_lh {w : World} {p b h n m : Nat} {G : Nt → Option Ac} {pv : Value} {F : ByteArray → Option Hd} (x : Lh w p b h n m G pv F) (a c : ByteArray) (f : Int) (hN : GoodName a) (hC : GoodCur c) (hf0 : -1099511627776 ≤ f) (hf1 : f ≤ 0) (hG : G (a, c) = none) (hn : n < 4096) :
    Calls Tryz.prog 6 #[.pointer (some ⟨p, 0, none⟩), .string a, .string c, .int .i64 f] w fun e w' => e = .returned (.int .i64 0) ∧ Lh w' p b h (n + 1) m (putG G (a, c) ⟨f, 0, 0⟩) pv F ∧ w.grownBy w' (some b) :=
  (open_new a c f w p b n G pv (.map (some h)) x.lg hN hC hf0 hf1 hG hn).mono fun e w' ⟨he, hL, hg⟩ => ⟨he, ⟨hL, x.hs.kept hg (fun e => x.ne (by injection e with e; exact e.symm)), x.ne⟩, hg⟩
end Go.Proofs.YtooeelaobmhifaaGreatDoor
namespace Go.Proofs.YtooeelaobmhifaaGreatDoor
open Go.RowKit Go.Maps Go.Lib
set_option linter.unusedVariables false
set_option maxRecDepth 100000

theorem aa_good : GoodName aaT := goodName_of [97] (by decide) (by decide) (by decide)
theorem bb_good : GoodName bbT := goodName_of [98] (by decide) (by decide) (by decide)
set_option maxHeartbeats 4000000 in
theorem auditCredits_any (name : ByteArray) (A : Option Addr) (c : Nat) (T : List Ac3) (w : World) (hF : ∀ a ∈ T, a.Fine) (hR : Ra w w.heap.size A T) (hn : name.size ≤ 140737488351232) :
    Calls Tryz.prog 3 #[.string name, .slice A T.length c] w fun e w' => e = .returned (.bool true) ∧ Below w.heap.size w w' := by
  have HR := Lib.hid hR
  clear hR
  by_cases h40 : (T.length : Int) ≤ 40
  · go_enter Tryz.func3, Tryz.ntmps3
    go_wp2_with fail
    refine (awake_any _).mono ?_
    rintro e w1 ⟨rfl, hb1⟩
    have HB1 := Lib.hid hb1
    clear hb1
    go_wp2_with fail
    refine (new_holds _ _).mono ?_
    rintro e w2 ⟨rfl, hl2, hb2⟩
    have HL2 := Lib.hid hl2
    have HB2 := Lib.hid hb2
    clear hl2 hb2
    go_wp2_with fail
    refine (open_lh HL2.out aaT eurT _ aa_good eur_good (by omega) (by omega) rfl (by omega)).mono ?_
    rintro e w3 ⟨rfl, hl3, hg3⟩
    have HL3 := Lib.hid hl3
    have HG3 := Lib.hid hg3
    clear hl3 hg3
    go_wp2_with fail
    refine (open_lh HL3.out bbT eurT _ bb_good eur_good (by omega) (by omega) (putG_other _ _ (fun e => by injection e with e _; exact aa_bb e.symm)) (by omega)).mono ?_
    rintro e w4 ⟨rfl, hl4, hg4⟩
    have HL4 := Lib.hid hl4
    have HG4 := Lib.hid hg4
    clear hl4 hg4
    have HB4 : Hid (Below w1.heap.size w1 w4) := Lib.hid ((HB2.out.grown HG3.out HB2.out.size (fun k e => by injection e with e; omega)).grown HG4.out (Nat.le_trans HB2.out.size HG3.out.size) (fun k e => by injection e with e; omega))
    have HS : Hid (Sv w1 w4 w1.heap.size (w1.heap.size + 2) 0) := Lib.hid ⟨⟨_, [], Cs.start HL4.out (by omega) ((putG_other _ _ (fun e => by injection e with e _; exact aa_bb e)).trans (putG_same _ _ _)) (putG_same _ _ _) (by omega) (by omega) (by omega), by simp, by simp⟩, HB4.out⟩
    clear HL2 HB2 HL3 HG3 HL4 HG4 HB4
    go_wp2_with fail
    go_loopw [24] (fun i wr => ∃ k : Nat, i = .int .i64 (k : Int) ∧ k ≤ T.length ∧ Hid (Sv w1 wr w1.heap.size (w1.heap.size + 2) k)) (fun i _ => T.length - (RowKit.intOf i).toNat)
    case atStart => exact ⟨0, rfl, Nat.zero_le _, HS⟩
    case round =>
      obtain ⟨k, rfl, hk, HSr⟩ := hrel
      by_cases hlt : k < T.length
      · have hlt' : (k : Int) < (T.length : Int) := by omega
        have hsz1 : w.heap.size ≤ w1.heap.size := HB1.out.size
        obtain ⟨g, off, rfl, hg, hc⟩ := (HR.out.below HB1.out) (by omega)
        obtain ⟨c0, c1, c2⟩ := hc k _ (List.getElem?_eq_getElem hlt)
        have d0 := (HSr.out.bel.cell (p := ⟨g, off + k * 3, none⟩) (by show g < _; omega)).trans c0
        have d1 := (HSr.out.bel.cell (p := ⟨g, off + k * 3 + 1, none⟩) (by show g < _; omega)).trans c1
        have d2 := (HSr.out.bel.cell (p := ⟨g, off + k * 3 + 2, none⟩) (by show g < _; omega)).trans c2
        have hfine := hF _ (List.getElem_mem hlt)
        clear hc c0 c1 c2
        generalize T[k] = ac at *
        obtain ⟨kd, ai, an⟩ := ac
        simp only at d0 d1 d2
        obtain ⟨f0, f1, f2⟩ := hfine
        simp only at f0 f1 f2
        have Hq4 : Hid (ai % 4 < 4) := Lib.hid (Nat.mod_lt _ (by omega))
        have q2 : Int.tmod (ai : Int) 4 = ((ai % 4 : Nat) : Int) := rfl
        have r2 : Int.tmod (kd : Int) 4 = ((kd % 4 : Nat) : Int) := rfl
        have hr4 : kd % 4 < 4 := Nat.mod_lt _ (by omega)
        generalize ai % 4 = q at *
        generalize kd % 4 = r at *
        have hq4 := Hq4.out
        have hq4' : (q : Int) < 4 := by omega
        obtain ⟨id, hid, hcell⟩ := ids_cell (wr.alloc (.cells #[.int .u8 (kd : Nat), .int .u8 (ai : Nat), .int .u16 (an : Nat)] 30)) q hq4
        rw [show (wr.alloc (.cells #[.int .u8 (kd : Nat), .int .u8 (ai : Nat), .int .u16 (an : Nat)] 30)).heap.size = wr.heap.size + 1 from by simp] at hcell
        have hcell' : ((wr.alloc (.cells #[.int .u8 (kd : Nat), .int .u8 (ai : Nat), .int .u16 (an : Nat)] 30)).alloc (.cells #[.string ⟨#[99, 114, 101, 100, 105, 116, 58, 100, 49]⟩, .string ⟨#[99, 114, 101, 100, 105, 116, 58, 100, 50]⟩, .string ⟨#[111, 116, 104, 101, 114]⟩, .string ⟨#[99, 114, 101, 100, 105, 116]⟩] 9)).cell? ⟨wr.heap.size + 1, q, none⟩ = some (.string id) := hcell
        have HSV := Lib.hid ((HSr.out.alloc (.cells #[.int .u8 (kd : Nat), .int .u8 (ai : Nat), .int .u16 (an : Nat)] 30)).alloc idsObj)
        have Hid4 := Lib.hid hid
        clear hcell hid
        by_cases hr2 : r = 2
        · subst hr2
          have HC := Lib.hid (sv_take id an w1 _ w1.heap.size (w1.heap.size + 2) k HSV.out (by omega) Hid4.out f2)
          go_wp2_with (first
            | (go_at_call 7; refine HC.out.mono ?_; rintro e w' ⟨⟨v, rfl⟩, hS'⟩; have HS' := Lib.hid hS'; clear hS')
            | fail)
          go_roundw
          case rel => exact ⟨k + 1, by go_num, by omega, HS'⟩
          case measure => simp [RowKit.intOf]; omega
        · have b2 : ((r : Int) == 2) = false := by rw [beq_eq_false_iff_ne]; omega
          by_cases hr3 : r = 3
          · subst hr3
            have HC := Lib.hid (sv_let id w1 _ w1.heap.size (w1.heap.size + 2) k HSV.out (by omega) Hid4.out)
            go_wp2_with (first
              | (go_at_call 8; refine HC.out.mono ?_; rintro e w' ⟨⟨v, rfl⟩, hS'⟩; have HS' := Lib.hid hS'; clear hS')
              | fail)
            go_roundw
            case rel => exact ⟨k + 1, by go_num, by omega, HS'⟩
            case measure => simp [RowKit.intOf]; omega
          · have b3 : ((r : Int) == 3) = false := by rw [beq_eq_false_iff_ne]; omega
            have HC := Lib.hid (sv_hold id an w1 _ w1.heap.size (w1.heap.size + 2) k HSV.out (by omega) Hid4.out f2)
            go_wp2_with (first
              | (go_at_call 9; refine HC.out.mono ?_; rintro e w' ⟨⟨v, rfl⟩, hS'⟩; have HS' := Lib.hid hS'; clear hS')
              | fail)
            go_roundw
            case rel => exact ⟨k + 1, by go_num, by omega, HS'⟩
            case measure => simp [RowKit.intOf]; omega
      · have hlt' : ¬ (k : Int) < (T.length : Int) := by omega
        have HBr := Lib.hid HSr.out.bel
        obtain ⟨f, txt, hCs, hf, htt⟩ := HSr.out.cs
        have HCs := Lib.hid hCs
        have Hf := Lib.hid hf
        have Htt := Lib.hid htt
        have his : Hid (∀ i ∈ ids4, i.size ≤ 1000) := Lib.hid (fun i hi => by have := (ids4_good i hi).2; omega)
        clear hCs hf htt HSr
        go_wp2_with fail
        refine (credits_any name _ _ _ (2 * k) f txt ids4 HCs.out (by omega) Hf.out (by simp [ids4]) his.out Htt.out hn).mono ?_
        rintro e w5 ⟨A5, c5, keys, rfl, hS5, hK5, hR5, hb5⟩
        have HB5 := Lib.hid hb5
        have HR5 := Lib.hid hR5
        have HCs5 := Lib.hid (HCs.out.below hb5)
        have HSK := Lib.hid (And.intro hS5 hK5)
        clear hb5 hR5 hS5 hK5
        obtain ⟨b, h, n, m, G, pv, L, hcr, htx, hn10, hm10, _, _⟩ := HCs5.out.cr
        have hLl : L.length ≤ 100 := by
          have h1 := HCs5.out.len
          rw [← htx] at h1
          simp at h1
          omega
        have Hcr := Lib.hid hcr
        have Htx0 := Lib.hid htx
        clear hcr htx
        go_wp2_with fail
        refine (ledgerPosts_any L w5 Hcr.out.led (by omega)).mono ?_
        rintro e w6 ⟨pl, L', rfl, hpts, hP6, hb6⟩
        have Htx : Hid (L'.map (fun x => x.pt.text) = txt) := Lib.hid (by
          have := congrArg (List.map (fun q : Pt => q.text)) hpts
          simp only [List.map_map] at this
          rw [← Htx0.out]
          exact this)
        have hl' : L'.length ≤ 100 := by have := congrArg List.length hpts; simp at this; omega
        have HP6 := Lib.hid hP6
        have HB6 := Lib.hid hb6
        have Hcr6 := Lib.hid (Hcr.out.below hb6)
        have HR6 := Lib.hid ((HR5.out.below hb6).more hb6.size)
        clear hpts hP6 hb6 Hcr HR5 Htx0
        go_wp2_with fail
        refine (ledgerHolds_any w6 _ b h n m G pv (holdsF f) ids4 Hcr6.out.lh (by omega) (fun i hi => Hf.out i (by simpa [holdsF] using hi)) (by simp [ids4])).mono ?_
        rintro e w7 ⟨Ah, ch, hs, xs, rfl, hV, hPm, hhl, hRh, hb7⟩
        have HP7 := Lib.hid ((HP6.out.below hb7).more hb7.size)
        have HB7 := Lib.hid hb7
        have HR7 := Lib.hid ((HR6.out.below hb7).more hb7.size)
        have HRh := Lib.hid hRh
        have Heq := Lib.hid (credits_same name txt hs xs f keys ids4 HSK.out.1 HSK.out.2 hV hPm Hf.out his.out)
        clear hV hPm hRh hb7 HP6 HR6 Hcr6
        go_wp2_with fail
        refine (refCredits_any name pl L' Ah ch hs _ w7 HP7.out HRh.out hl' (by omega) (fun x hx => Htt.out _ (by rw [← Htx.out]; exact List.mem_map_of_mem hx)) txt Htx.out hn).mono ?_
        rintro e w8 ⟨g8, c8, rfl, hR8, hb8⟩
        have HR8 := Lib.hid (Rs.of_row hR8)
        have HB8 := Lib.hid hb8
        have HR78 := Lib.hid ((HR7.out.below hb8).more hb8.size)
        rw [Heq.out] at HR78
        have hlen : (linesC name txt hs (idsOf txt)).length ≤ 1000000 := by
          have h1 := linesC_len name txt hs (by omega) (idsOf txt)
          have h2 := idsOf_len txt
          have h3 : txt.length ≤ 100 := by rw [← Htx.out]; simpa using hl'
          omega
        clear hR8 hb8 HR7
        rw [Heq.out]
        generalize linesC name txt hs (idsOf txt) = LL at *
        go_wp2_with fail
        refine (same_eq LL A5 (some ⟨g8, 0, none⟩) c5 c8 w8 HR78.out HR8.out hlen).mono ?_
        rintro e w9 ⟨rfl, hb9⟩
        have HB9 := Lib.hid hb9
        clear hb9
        go_wp2
        go_ret
        have e1 := HB1.out
        have e2 := HBr.out.mono (Nat.le_refl w1.heap.size)
        have e3 := HB5.out
        have e4 := HB6.out
        have e5 := HB7.out
        have e6 := HB8.out
        have e7 := HB9.out
        have s1 := e1.size
        have s2 := e2.size
        have s3 := e3.size
        have s4 := e4.size
        have s5 := e5.size
        have s6 := e6.size
        exact ⟨rfl, (((((e1.trans (e2.mono s1)).trans (e3.mono (by omega))).trans (e4.mono (by omega))).trans (e5.mono (by omega))).trans (e6.mono (by omega))).trans (e7.mono (by omega))⟩
  · go_enter Tryz.func3, Tryz.ntmps3
    have tok : True := trivial
    go_wp2_with (first
      | (have _t := tok; go_at_call 4; refine (awake_any _).mono ?_; rintro e w1 ⟨rfl, hb1⟩; have HB1 := Lib.hid hb1; clear hb1 tok _t)
      | (go_at_call 4; refine (awake_any _).mono ?_; rintro e w2 ⟨rfl, hb2⟩; have HB2 := Lib.hid hb2; clear hb2)
      | go_in)
    go_ret
    exact ⟨rfl, HB1.out.trans (HB2.out.mono HB1.out.size)⟩
end Go.Proofs.YtooeelaobmhifaaGreatDoor
