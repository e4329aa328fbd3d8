/- town.New: a town of the setup, or a refusal. What a town that stands tells: its day, its mail, its names, that it is quiet. (*town.Town).Do: a delivery out of no mail. -/
import Derived.Test.YtchkdidpnjakeaaGreatDoorGMTOpen
import Derived.Test.YtchkdidpnjakeaaGreatDoorGMDay
import Derived.Deep.QuietTactic
import Derived.BigQuiet
import Derived.Laws.EntriesVeiled
namespace Go.Proofs.YtchkdidpnjakeaaGreatDoor
open Go.RowKit Go.Maps Go.Lib Led
set_option linter.unusedVariables false
set_option maxRecDepth 100000

/-- what the operations give that lay a store -/
def tnR (t sm b : Nat) (x : ByteArray) : Nat → Value → World → Prop
  | 0, v, _ => v = .pointer (some ⟨t, 0, none⟩)
  | 1, v, _ => v = .pointer (some ⟨t, 0, none⟩)
  | 2, v, _ => v = .pointer (some ⟨t, 6, none⟩)
  | 3, v, _ => v = .map (some sm)
  | 4, v, _ => v = .string x
  | 5, v, X => ∃ s, v = .pointer (some ⟨s, 0, none⟩) ∧ StoreAt X s ∧ b ≤ s
  | _, _, _ => True
theorem tnR_kept {t sm b : Nat} {x : ByteArray} (i : Nat) (v : Value) (w w' : World) (hb : Below w.heap.size w w') (h : tnR t sm b x i v w) : tnR t sm b x i v w' := by
  match i, h with
  | 0, h => exact h
  | 1, h => exact h
  | 2, h => exact h
  | 3, h => exact h
  | 4, h => exact h
  | 5, ⟨s, h1, h2, h3⟩ => exact ⟨s, h1, h2.below hb, h3⟩
  | n + 6, h => trivial
set_option maxHeartbeats 16000000 in
theorem tnew_w {w : World} {u : Su} {a : Sa} (hA : SuAt w w.heap.size u a) (hz : SuSz u) (h12 : 8 ≤ w.heap.size) :
    Calls Tryz.prog 7 #[.agg #[.slice a.PA u.par.length a.pc, .slice a.DA u.dl.length a.dc, .slice a.FA u.fd.length a.fc, .slice a.RA u.rest.length a.rc, .slice a.HA u.hol.length a.hc]] w fun e w' => TnQ u w e w' := by
  have hmm := @run_makeMap Tryz.prog
  obtain ⟨W1, hW1⟩ : ∃ W1, W1 = w.alloc (.cells #[.slice a.PA u.par.length a.pc, .slice a.DA u.dl.length a.dc, .slice a.FA u.fd.length a.fc, .slice a.RA u.rest.length a.rc, .slice a.HA u.hol.length a.hc] 29) := ⟨_, rfl⟩
  have HS : Hid (∀ X, Below W1.heap.size W1 X → SbX w X u a) := Lib.hid fun X hX => SbX.of hA hW1 hX
  have hs1 : W1.heap.size = w.heap.size + 1 := by rw [hW1]; simp
  have HRg : Hid (∀ X, Below W1.heap.size W1 X → X.rangeAt w.heap.size 0 [.slice a.PA u.par.length a.pc, .slice a.DA u.dl.length a.dc, .slice a.FA u.fd.length a.fc, .slice a.RA u.rest.length a.rc, .slice a.HA u.hol.length a.hc] ∧ w.heap.size < X.heap.size) := Lib.hid fun X hX => ⟨fun j v hv => by
    have h := (HS.out X hX).blk
    show X.cell? ⟨w.heap.size, 0 + j, none⟩ = some v
    rw [Nat.zero_add, World.cell?, h]
    simpa [suA] using hv, (HS.out X hX).lt⟩
  have HIb : Hid ((Tryz.prog.info? 29).map (·.size) = some ([.slice a.PA u.par.length a.pc, .slice a.DA u.dl.length a.dc, .slice a.FA u.fd.length a.fc, .slice a.RA u.rest.length a.rc, .slice a.HA u.hol.length a.hc] : List Value).length) := Lib.hid infoSu5
  have HMay : Hid (Calls Tryz.prog 8 #[.agg #[.slice a.PA u.par.length a.pc, .slice a.DA u.dl.length a.dc, .slice a.FA u.fd.length a.fc, .slice a.RA u.rest.length a.rc, .slice a.HA u.hol.length a.hc]] W1 fun e w' => BoolQ (MayP u) W1 e w') := Lib.hid (may_t ((HS.out W1 (Below.refl _ _)).su.more (by omega)) hz)
  have HCy : Hid (∀ X, Below W1.heap.size W1 X → Calls Tryz.prog 19 #[.agg #[.slice a.PA u.par.length a.pc, .slice a.DA u.dl.length a.dc, .slice a.FA u.fd.length a.fc, .slice a.RA u.rest.length a.rc, .slice a.HA u.hol.length a.hc]] X fun e w' => ∃ b, e = .returned (.agg #[.slice b.PA u.par.length b.pc, .slice b.DA u.dl.length b.dc, .slice b.FA u.fd.length b.fc, .slice b.RA u.rest.length b.rc, .slice b.HA u.hol.length b.hc]) ∧ SuAt w' w'.heap.size u b ∧ Below W1.heap.size W1 w') := Lib.hid fun X hX => (copy_t ((HS.out X hX).su.more (by have := (HS.out X hX).lt; omega)) hz).mono fun e w' ⟨b, h1, h2, h3⟩ => ⟨b, h1, h2, hX.trans (h3.mono hX.size)⟩
  have HN : Hid (¬ MayP u → ∀ X, Below W1.heap.size W1 X → TnQ u w (.returned (.tuple #[.pointer none, .int .i64 1])) X) := Lib.hid fun h X hX => ⟨(HS.out X hX).bw, .inl ⟨h, rfl⟩⟩
  have HY : Hid (MayP u → ∀ t X, Below w.heap.size w X → TwI X t u → TnQ u w (.returned (.tuple #[.pointer (some ⟨t, 0, none⟩), .int .i64 0])) X) := Lib.hid fun h t X hX hT => ⟨hX, .inr ⟨h, t, rfl, hT⟩⟩
  have HZ := Lib.hid hz
  have HBw : Hid (∀ X, Below W1.heap.size W1 X → Below w.heap.size w X) := Lib.hid fun X hX => (HS.out X hX).bw
  have HW := Lib.hid hW1
  clear hW1 hA hz HS
  generalize TnQ u w = CP at *
  obtain ⟨hrg, kl⟩ := HRg.out W1 (Below.refl _ _)
  have HR1 := Lib.hid hrg
  clear hrg
  go_enter Tryz.func7, Tryz.ntmps7
  go_upto_region 1 with fail
  rw [← HW.out]
  clear HW
  by_cases hM : MayP u
  · have HM := Lib.hid hM
    clear hM
    have HMt : Hid (Calls Tryz.prog 8 #[.agg #[.slice a.PA u.par.length a.pc, .slice a.DA u.dl.length a.dc, .slice a.FA u.fd.length a.fc, .slice a.RA u.rest.length a.rc, .slice a.HA u.hol.length a.hc]] W1 fun e w' => e = .returned (.bool true) ∧ Below W1.heap.size W1 w') := Lib.hid (HMay.out.mono fun e w' h => h.of_true HM.out)
    go_upto_region 3 with (first
      | (refine wpList_load_mid rfl 29 (.tmp 1) rfl w.heap.size 0 rfl [.slice a.PA u.par.length a.pc, .slice a.DA u.dl.length a.dc, .slice a.FA u.fd.length a.fc, .slice a.RA u.rest.length a.rc, .slice a.HA u.hol.length a.hc] _ HR1.out Tryz.underlying29 rfl HIb.out ?_)
      | (go_at_call 8; refine HMt.out.mono ?_; rintro e w2 ⟨rfl, hb2⟩)
      | fail)
    clear kl HR1 HMay HMt
    obtain ⟨hrg, kl⟩ := HRg.out w2 hb2
    have HR1 := Lib.hid hrg
    clear hrg
    go_upto_region 4 with (first
      | (refine wpList_load_mid rfl 29 (.tmp 1) rfl w.heap.size 0 rfl [.slice a.PA u.par.length a.pc, .slice a.DA u.dl.length a.dc, .slice a.FA u.fd.length a.fc, .slice a.RA u.rest.length a.rc, .slice a.HA u.hol.length a.hc] _ HR1.out Tryz.underlying29 rfl HIb.out ?_)
      | (go_at_call 19; refine (HCy.out w2 hb2).mono ?_; rintro e w3 ⟨b, rfl, hsb, hb3⟩)
      | fail)
    obtain ⟨X3, hX3⟩ : ∃ X3, X3 = ((w3.alloc (.map #[] 0)).alloc (.map #[] 0)).alloc (.cells #[.slice b.PA u.par.length b.pc, .slice b.DA u.dl.length b.dc, .slice b.FA u.fd.length b.fc, .slice b.RA u.rest.length b.rc, .slice b.HA u.hol.length b.hc, .slice none 0 0, .map (some w3.heap.size), .map (some (w3.heap.size + 1)), .int .i64 0, .slice none 0 0, .slice none 0 0] 58) := ⟨_, rfl⟩
    have HI0 : Hid (TnI w3 X3 u b [] none 0 0 0 (fun _ => none) (fun _ => none)) := Lib.hid (by rw [hX3]; exact TnI.made w3 u b)
    have HSu : Hid (∀ X, Below w3.heap.size w3 X → SuAt X w3.heap.size u b) := Lib.hid fun X hX => hsb.below hX
    have HB3 := Lib.hid hb3
    have h12b : 9 ≤ w3.heap.size := by have := hb3.size; omega
    have hw13 := hb3.size
    rw [← hX3]
    generalize Value.agg #[.slice a.PA u.par.length a.pc, .slice a.DA u.dl.length a.dc, .slice a.FA u.fd.length a.fc, .slice a.RA u.rest.length a.rc, .slice a.HA u.hol.length a.hc] = VA
    generalize Value.agg #[.slice b.PA u.par.length b.pc, .slice b.DA u.dl.length b.dc, .slice b.FA u.fd.length b.fc, .slice b.RA u.rest.length b.rc, .slice b.HA u.hol.length b.hc] = VB
    generalize Value.agg #[.slice b.PA u.par.length b.pc, .slice b.DA u.dl.length b.dc, .slice b.FA u.fd.length b.fc, .slice b.RA u.rest.length b.rc, .slice b.HA u.hol.length b.hc, .slice none 0 0, .map (some w3.heap.size), .map (some (w3.heap.size + 1)), .int .i64 0, .slice none 0 0, .slice none 0 0] = VC
    clear hX3 hsb hb3 HR1 kl hmm HCy HRg HN
    generalize htt : w3.heap.size + 1 + 1 = t
    generalize hdd : w3.heap.size + 1 = dm
    generalize hss : w3.heap.size = sm
    have htt2 : w3.heap.size + 2 = t := htt
    have HCl : Hid (∀ X M A c n1 n2 F G, TnI w3 X u b M A c n1 n2 F G → X.cell? ⟨t, 0, none⟩ = some (.slice b.PA u.par.length b.pc) ∧ X.cell? ⟨t, 5, none⟩ = some (.slice A M.length c) ∧ X.frozen? ⟨t, 5, none⟩ = false ∧ X.cell? ⟨t, 6, none⟩ = some (.map (some sm)) ∧ X.cell? ⟨t, 7, none⟩ = some (.map (some dm)) ∧ t < X.heap.size) := Lib.hid (by
      rw [← htt2, ← hdd, ← hss]
      exact fun X M A c n1 n2 F G h => h.cells)
    have HSp : Hid (∀ X M A c n1 n2 F G x, TnI w3 X u b M A c n1 n2 F G → M.length ≤ 1000 → ∃ A2 c2 w9, (Builtin.append_ #[47, 47] 47 #[.slice A M.length c, .slice (some ⟨X.heap.size, 0, none⟩) 1 1]).run Tryz.prog (X.alloc (.cells #[.string x] 9)) = .ok (.slice A2 (M.length + 1) c2) w9 ∧ w9.cell? ⟨t, 5, none⟩ = some (.slice A M.length c) ∧ w9.frozen? ⟨t, 5, none⟩ = false ∧ t < w9.heap.size ∧ TnI w3 (w9.setCell ⟨t, 5, none⟩ (.slice A2 (M.length + 1) c2)) u b (M ++ [x]) A2 c2 n1 n2 F G) := Lib.hid (by
      rw [← htt2]
      intro X M A c n1 n2 F G x h hm
      obtain ⟨A2, c2, w9, q1, q2, q3, q4, q5⟩ := h.step hm x
      rw [show (M ++ [x]).length = M.length + 1 by simp] at q5
      exact ⟨A2, c2, w9, q1, q2, q3, q4, q5⟩)
    have HPs : Hid (∀ X M A c n1 n2 F G x s, TnI w3 X u b M A c n1 n2 F G → n1 ≤ 1000 → x.size ≤ maxLen → ∃ w', (Instr.mapUpdate 54 (.map (some sm)) (.string x) (.pointer (some ⟨s, 0, none⟩))).run Tryz.prog X = .ok () w' ∧ TnI w3 w' u b M A c (n1 + 1) n2 (putG F x (some s)) G ∧ Kf (w3.heap.size + 3) X w') := Lib.hid (by
      rw [← hss]
      exact fun X M A c n1 n2 F G x s h h1 h2 => h.putS h1 h2 s)
    have HPd : Hid (∀ X M A c n1 n2 F G x s, TnI w3 X u b M A c n1 n2 F G → n2 ≤ 1000 → x.size ≤ maxLen → ∃ w', (Instr.mapUpdate 55 (.map (some dm)) (.string x) (.pointer (some ⟨s, 0, none⟩))).run Tryz.prog X = .ok () w' ∧ TnI w3 w' u b M A c n1 (n2 + 1) F (putG G x (some s)) ∧ Kf (w3.heap.size + 3) X w') := Lib.hid (by
      rw [← hdd]
      exact fun X M A c n1 n2 F G x s h h1 h2 => h.putD h1 h2 s)
    have HTt := Lib.hid htt2
    have hp16 := HZ.out.few.par
    clear htt htt2 hdd hss
    obtain ⟨k0, -, -, -, -, kl⟩ := HCl.out _ _ _ _ _ _ _ _ HI0.out
    go_wp2_with fail
    clear k0 kl
    go_loopw [26, 6] (fun i _ wr => ∃ (k : Nat) (A : Option Addr) (c : Nat) (M : List ByteArray), k ≤ u.par.length ∧ i = .int .i64 (k : Int) ∧ M.length ≤ k ∧ Hid (M = (u.par.take k).map (·.nm) ∧ TnI w3 wr u b M A c 0 0 (fun _ => none) (fun _ => none))) (fun i _ _ => u.par.length - (RowKit.intOf i).toNat)
    case atStart => exact ⟨0, none, 0, [], Nat.zero_le _, rfl, Nat.le_refl _, Lib.hid ⟨by simp, HI0.out⟩⟩
    case round =>
      clear HI0
      obtain ⟨k, A1, cc, M, hk, rfl, hmk, HI⟩ := hrel
      by_cases hlt : k < u.par.length
      · have b1 : (k : Int) < (u.par.length : Int) := by omega
        obtain ⟨y, hy⟩ : ∃ y, u.par[k]? = some y := ⟨u.par[k], List.getElem?_eq_getElem hlt⟩
        have heq : u.par[k] = y := (List.getElem?_eq_some_iff.1 hy).2
        obtain ⟨g, off, hPA, hg, c0, c1, c2⟩ := (HSu.out wr HI.out.2.bw).par.at_ hlt
        rw [heq] at c0 c1 c2
        have hgw : g < wr.heap.size := by have := HI.out.2.lt; omega
        obtain ⟨PA, hPA2⟩ : ∃ PA, b.PA = PA := ⟨_, rfl⟩
        rw [hPA2] at hPA ⊢
        subst hPA
        obtain ⟨wz, hwz⟩ : ∃ wz, wz = wr.alloc (.cells #[.string y.nm, .string y.bk, .int .i64 y.kd] 38) := ⟨_, rfl⟩
        have hbz : Below wr.heap.size wr wz := by rw [hwz]; exact (Below.refl _ _).alloc (Nat.le_refl _) _
        have hzb : wz.heap[wr.heap.size]? = some (.cells #[.string y.nm, .string y.bk, .int .i64 y.kd] 38 (0, 0)) := by rw [hwz]; exact heap_alloc_new _ _
        have hIz := (HI.out.2.below hbz).below (Below.refl _ _).drew
        obtain ⟨A4, c4, w9, hrn, q1, q2, q3, hC9⟩ := HSp.out _ _ _ _ _ _ _ _ y.nm hIz (by omega)
        rw [World.size_drew] at hrn
        obtain ⟨-, c6, -, -, -, hzl⟩ := HCl.out _ _ _ _ _ _ _ _ (HI.out.2.below hbz)
        have hrn2 : (Builtin.append_ #[47, 47] 47 #[.slice A1 M.length cc, .slice (some ⟨wz.heap.size, 0, none⟩) 1 1]).run Tryz.prog (wz.alloc (.cells #[.string y.nm] 9)).drew = .ok (.slice A4 (M.length + 1) c4) w9 := hrn
        have c7 : (wz.alloc (.cells #[.string y.nm] 9)).cell? ⟨t, 5, none⟩ = some (.slice A1 M.length cc) := Lib.cell?_alloc_some _ c6
        have z0 : wz.cell? ⟨wr.heap.size, 0, none⟩ = some (.string y.nm) := by simp [World.cell?, hzb]
        have hzs : wr.heap.size < wz.heap.size := (Array.getElem?_eq_some_iff.1 hzb).1
        have HC9 : Hid (M ++ [y.nm] = (u.par.take (k + 1)).map (·.nm) ∧ TnI w3 (w9.setCell ⟨t, 5, none⟩ (.slice A4 (M.length + 1) c4)) u b (M ++ [y.nm]) A4 c4 0 0 (fun _ => none) (fun _ => none)) := Lib.hid ⟨by rw [take_snoc' hy, List.map_append, ← HI.out.1]; rfl, hC9⟩
        have HWz := Lib.hid hwz
        clear hPA2 heq hy hwz hbz hzb hIz hC9 HI
        go_upto_region 7 with fail
        rw [← HWz.out]
        clear HWz c0 c1 c2 hgw hg
        go_region_law (first
          | ((try simp only [Act.put, List.setIfInBounds_toArray, List.set_cons_zero, List.set_cons_succ]); rw [if_pos (by rfl)]; refine Lib.wp_append_run _ (.tmp 34) (.tmp 37) 47 47 (by rfl) (.slice A1 M.length cc) (.slice (some ⟨wz.heap.size, 0, none⟩) 1 1) (by rfl) (by rfl) _ _ hrn2 ?_))
        all_goals
          clear c6 c7 z0 hrn hrn2 q1 q2
          go_wp2_with fail
          go_roundw
          case rel => exact ⟨k + 1, A4, c4, M ++ [y.nm], by omega, by go_num, by rw [List.length_append]; simp; omega, HC9⟩
          case measure => simp [RowKit.intOf] <;> omega
      · have b1 : ¬ (k : Int) < (u.par.length : Int) := by omega
        obtain rfl : k = u.par.length := by omega
        have HSo := Lib.hid (sort_o (w3.heap.size + 3) A1 cc M wr HI.out.2.row (by have := HI.out.2.lt; omega) (by omega))
        obtain ⟨-, c5, -, -, -, hzl⟩ := HCl.out _ _ _ _ _ _ _ _ HI.out.2
        go_upto_region 10 with (first | (go_at_call 20; refine HSo.out.mono ?_; rintro e w5 ⟨rfl, L', hpe, hO5, hgr⟩) | fail)
        have hNm := HM.out.par.names
        have HP : Hid (L'.Perm (u.par.map (·.nm))) := Lib.hid (by
          have h := HI.out.1
          rw [List.take_length] at h
          rw [← h]
          exact hpe)
        have HLn : Hid (L'.Nodup ∧ ∀ o ∈ L', nameB o.data.toList = true ∧ o.size ≤ 1000) := Lib.hid ⟨HP.out.nodup_iff.2 hNm.1, fun o ho => hNm.2 o (HP.out.mem_iff.1 ho)⟩
        have HJ0 := Lib.hid (HI.out.2.sorted hpe hO5 hgr)
        have hll : L'.length = M.length := hpe.length_eq
        have hl16 : L'.length ≤ 16 := by omega
        have HOk := Lib.hid (HM.out.ok HZ.out.few)
        have HOp : Hid (∀ X n1 n2 F G x s, TnI w3 X u b L' A1 cc n1 n2 F G → x ∈ L' → F x = some (some s) → StoreAt X s → w3.heap.size + 3 ≤ s → Calls Tryz.prog 22 #[.pointer (some ⟨t, 0, none⟩), .string x] X fun e w' => OnP X (w3.heap.size + 3) s x e w') := Lib.hid fun X n1 n2 F G x s hI hx hF hS hs => by
          have hT := hI.tw
          rw [HTt.out] at hT
          exact topen_w hT ((HSu.out X hI.bw).more hI.bw.size) HZ.out HOk.out (fun d hd => (HM.out.dl.size d hd).2) (by have := hI.lt; omega) hI.row hI.st hF hS hs (by have := hI.lt; omega) HLn.out.1 hl16 HLn.out.2 (HLn.out.2 x hx).1 (HLn.out.2 x hx).2
        clear hNm hpe hO5 hgr HI HSo c5 hzl
        rw [← hll]
        clear hll hmk M
        obtain ⟨-, k5, -, -, -, kl⟩ := HCl.out _ _ _ _ _ _ _ _ HJ0.out
        go_wp2_with fail
        clear k5 kl
        go_loopw [52, 8, 9, 10] (fun i _ _ _ wr => ∃ (k n1 n2 : Nat) (F G : ByteArray → Option (Option Nat)), k ≤ L'.length ∧ i = .int .i64 (k : Int) ∧ n1 ≤ k ∧ n2 ≤ k ∧ Hid (TnI w3 wr u b L' A1 cc n1 n2 F G ∧ DksAt wr (w3.heap.size + 3) G (L'.take k))) (fun i _ _ _ _ => L'.length - (RowKit.intOf i).toNat)
        case atStart => exact ⟨0, 0, 0, _, _, Nat.zero_le _, rfl, Nat.le_refl _, Nat.le_refl _, Lib.hid ⟨HJ0.out, fun x hx => by simp at hx⟩⟩
        case round =>
          clear HJ0
          obtain ⟨k, n1, n2, F, G, hk, rfl, hk1, hk2, HI⟩ := hrel
          by_cases hlt : k < L'.length
          · have b1 : (k : Int) < (L'.length : Int) := by omega
            obtain ⟨x, hx⟩ : ∃ x, L'[k]? = some x := ⟨L'[k], List.getElem?_eq_getElem hlt⟩
            have heq : L'[k] = x := (List.getElem?_eq_some_iff.1 hx).2
            have hxm := List.mem_of_getElem? hx
            have hxz : x.size ≤ maxLen := by
              have := (HLn.out.2 x hxm).2
              unfold maxLen
              omega
            obtain ⟨g, rfl, _, hg, c0⟩ := HI.out.1.row.at_ hlt
            rw [heq] at c0
            have htk := take_snoc' hx
            have HTk := Lib.hid htk
            have HXm := Lib.hid hxm
            clear heq htk hx hxm
            go_upto_region 13 with fail
            clear c0 hg
            refine wp_region_facts (Le := fun w w' => Below w.heap.size w w') (C := fun X => Below wr.heap.size wr X) (R := tnR t sm (w3.heap.size + 3) x) 6 6 [] (by kernel_rfl) (by kernel_rfl) (by kernel_rfl) rfl (Below.refl _ _).drew (fun W W' h1 h2 => h2.trans (h1.mono h2.size)) (fun i v w w' hb h => tnR_kept i v w w' hb h) (steps_take ?_) ?_
            · simp only [List.take_succ_cons, List.take_zero, StepsFrom]
              refine ⟨fact_step ?_, fact_step ?_, fact_step ?_, fact_step ?_, fact_step ?_, fact_step ?_, trivial⟩
              all_goals (intro a2 W hs hc hd9 K9 hK)
              all_goals have t4 : a2.tmps[4]? = some (.pointer (some ⟨t, 0, none⟩)) := (hs.rest 4 (of_decide_eq_true (by kernel_rfl))).trans rfl
              all_goals have t8 : a2.tmps[8]? = some (.string x) := (hs.rest 8 (of_decide_eq_true (by kernel_rfl))).trans rfl
              all_goals clear hs
              -- 0
              · go_simp
                exact hK _ _ (Below.refl _ _) rfl
              -- 1
              · obtain ⟨v0, s0, r0⟩ := hd9 { on := 0, ground := .data } (by simp) (by rfl) _ (by rfl)
                replace s0 := s0 _ rfl
                obtain rfl := r0
                obtain ⟨-, -, -, k6, -, kl⟩ := HCl.out _ _ _ _ _ _ _ _ (HI.out.1.below hc)
                go_simp
                exact hK _ _ (Below.refl _ _) rfl
              -- 2
              · obtain ⟨v1, s1, r1⟩ := hd9 { on := 1, ground := .data } (by simp) (by rfl) _ (by rfl)
                replace s1 := s1 _ rfl
                obtain rfl := r1
                go_simp
                exact hK _ _ (Below.refl _ _) rfl
              -- 3
              · obtain ⟨v2, s2, r2⟩ := hd9 { on := 2, ground := .data } (by simp) (by rfl) _ (by rfl)
                replace s2 := s2 _ rfl
                obtain rfl := r2
                obtain ⟨-, -, -, k6, -, kl⟩ := HCl.out _ _ _ _ _ _ _ _ (HI.out.1.below hc)
                go_simp
                exact hK _ _ (Below.refl _ _) rfl
              -- 4
              · go_simp
                exact hK _ _ (Below.refl _ _) rfl
              -- 5
              · have HC := Lib.hid (storeNew_m W)
                go_simp
                refine HC.out.mono ?_
                rintro e w9 ⟨rfl, rfl⟩
                exact hK _ _ ((Below.refl _ _).alloc (Nat.le_refl _) _) ⟨_, rfl, heap_alloc_new _ _, by have := HI.out.1.lt; have := hc.size; omega⟩
            · intro a2 W hs hc hf
              obtain ⟨v3, s3, rfl⟩ := hf 3 _ rfl (by omega)
              obtain ⟨v4, s4, rfl⟩ := hf 4 _ rfl (by omega)
              obtain ⟨v5, s5, s, rfl, hSt, hbs⟩ := hf 5 _ rfl (by omega)
              replace s3 := s3 _ rfl
              replace s4 := s4 _ rfl
              replace s5 := s5 _ rfl
              obtain ⟨w6, r6, hI6, hk6⟩ := HPs.out W _ _ _ _ _ _ _ x s (HI.out.1.below hc) (by omega) hxz
              have HO6 := Lib.hid (HOp.out w6 _ _ _ _ x s hI6 HXm.out (putG_same _ _ _) (hSt.kf hk6 hbs) hbs)
              have HI6 := Lib.hid hI6
              have HD6 := Lib.hid ((HI.out.2.kf (Kf.of_below hc)).kf hk6)
              have hp := hs.puts [56, 57, 58, 59, 60, 61] (by kernel_rfl)
              simp only [List.foldl_cons, List.foldl_nil] at hp
              have g59 : a2.tmps.getD 59 undef = .map (some sm) := by simp [s3]
              have g60 : a2.tmps.getD 60 undef = .string x := by simp [s4]
              have g61 : a2.tmps.getD 61 undef = .pointer (some ⟨s, 0, none⟩) := by simp [s5]
              rw [g59, g60, g61] at hp
              generalize a2.tmps.getD 56 undef = f56 at hp
              generalize a2.tmps.getD 57 undef = f57 at hp
              generalize a2.tmps.getD 58 undef = f58 at hp
              clear g59 g60 g61 s3 s4 s5 hs hf hSt HI hk6 hI6 hc
              rw [hp]
              clear hp
              refine wpOps_more (by rfl) rfl ?_
              go_simp
              refine wpOps_done ?_
              clear r6
              go_upto_region 17 with (first | (go_at_call 22; refine HO6.out.mono ?_; rintro e w7 ⟨q, mv, bk, em, A5, c5, L5, rfl, hD7, hb7⟩) | fail)
              obtain ⟨w8, r8, hI8, hk8⟩ := HPd.out w7 _ _ _ _ _ _ _ x q (HI6.out.below hb7) (by omega) hxz
              obtain ⟨-, -, -, -, k7, kl⟩ := HCl.out _ _ _ _ _ _ _ _ (HI6.out.below hb7)
              have HX : Hid (TnI w3 w8 u b L' (some ⟨g, 0, none⟩) cc (n1 + 1) (n2 + 1) (putG F x (some s)) (putG G x (some q)) ∧ DksAt w8 (w3.heap.size + 3) (putG G x (some q)) (L'.take (k + 1))) := Lib.hid ⟨hI8, by
                rw [HTk.out]
                exact ((HD6.out.kf (Kf.of_below hb7)).kf hk8).put hxz (hD7.kf hk8)⟩
              clear hI8 hk8 hD7 hb7 HI6 HD6 HO6 HTk HXm HOp HPs HPd HSp HCl
              go_wp2_with fail
              go_roundw
              case rel => exact ⟨k + 1, n1 + 1, n2 + 1, _, _, by omega, by go_num, by omega, by omega, HX⟩
              case measure => simp [RowKit.intOf] <;> omega
          · have b1 : ¬ (k : Int) < (L'.length : Int) := by omega
            obtain rfl : k = L'.length := by omega
            have HX := Lib.hid (HY.out HM.out t wr (HBw.out _ (HB3.out.trans (HI.out.1.bw.mono HB3.out.size))) ⟨w3, b, L', A1, cc, n1, n2, F, G, HI.out.1, HTt.out.symm, HP.out, by
              have h := HI.out.2
              rw [List.take_length] at h
              exact h⟩)
            clear HI HOp HPs HPd HSp HCl
            go_wp2_with fail
            first
              | exact HX.out
              | (go_ret; exact HX.out)
              | (go_ret2; exact HX.out)
  · have HM := Lib.hid hM
    have HMt : Hid (Calls Tryz.prog 8 #[.agg #[.slice a.PA u.par.length a.pc, .slice a.DA u.dl.length a.dc, .slice a.FA u.fd.length a.fc, .slice a.RA u.rest.length a.rc, .slice a.HA u.hol.length a.hc]] W1 fun e w' => e = .returned (.bool false) ∧ Below W1.heap.size W1 w') := Lib.hid (HMay.out.mono fun e w' h => h.of_false HM.out)
    clear hM
    go_wp2_with (first
      | (refine wpList_load_mid rfl 29 (.tmp 1) rfl w.heap.size 0 rfl [.slice a.PA u.par.length a.pc, .slice a.DA u.dl.length a.dc, .slice a.FA u.fd.length a.fc, .slice a.RA u.rest.length a.rc, .slice a.HA u.hol.length a.hc] _ HR1.out Tryz.underlying29 rfl HIb.out ?_)
      | (go_at_call 8; refine HMt.out.mono ?_; rintro e w2 ⟨rfl, hb2⟩)
      | fail)
    have HX := Lib.hid (HN.out HM.out w2 hb2)
    first
      | exact HX.out
      | (go_ret; exact HX.out)
      | (go_ret2; exact HX.out)
end Go.Proofs.YtchkdidpnjakeaaGreatDoor
namespace Go.Proofs.YtchkdidpnjakeaaGreatDoor
open Go.RowKit Go.Maps Go.Lib Led
set_option linter.unusedVariables false
set_option maxRecDepth 100000

theorem TwI.below {w X : World} {t : Nat} {u : Su} (h : TwI w t u) (hb : Below w.heap.size w X) : TwI X t u := by
  obtain ⟨w3, a, M, A, c, n1, n2, F, G, h1, h2, h3, h4⟩ := h
  exact ⟨w3, a, M, A, c, n1, n2, F, G, h1.below hb, h2, h3, h4.kf (Kf.of_below hb)⟩
theorem TwI.cells {w : World} {t : Nat} {u : Su} (h : TwI w t u) : w.cell? ⟨t, 8, none⟩ = some (.int .i64 0) ∧ w.cell? ⟨t, 9, none⟩ = some (.slice none 0 0) ∧ t < w.heap.size := by
  obtain ⟨w3, a, M, A, c, n1, n2, F, G, h1, rfl, h3, h4⟩ := h
  obtain ⟨_, _, _, _, h8, h9⟩ := h1.tw.cells
  exact ⟨h8, h9, h1.lt⟩
set_option maxHeartbeats 4000000 in
theorem day_w {w : World} {t : Nat} {u : Su} (h : TwI w t u) : Calls Tryz.prog 10 #[.pointer (some ⟨t, 0, none⟩)] w fun e w' => e = .returned (.int .i64 0) ∧ Below w.heap.size w w' := by
  obtain ⟨k8, k9, kl⟩ := h.cells
  have HX : Hid (Below w.heap.size w w) := Lib.hid (Below.refl _ _)
  clear h
  go_enter Tryz.func10, Tryz.ntmps10
  go_wp2_with fail
  first
    | exact ⟨rfl, HX.out⟩
    | (go_ret; exact ⟨rfl, HX.out⟩)
set_option maxHeartbeats 4000000 in
theorem mail_w {w : World} {t : Nat} {u : Su} (h : TwI w t u) : Calls Tryz.prog 11 #[.pointer (some ⟨t, 0, none⟩)] w fun e w' => e = .returned (.slice none 0 0) ∧ Below w.heap.size w w' := by
  obtain ⟨k8, k9, kl⟩ := h.cells
  have HX : Hid (Below w.heap.size w w) := Lib.hid (Below.refl _ _)
  clear h
  go_enter Tryz.func11, Tryz.ntmps11
  go_wp2_with fail
  clear k8 k9 kl
  go_loopw [11, 5, 3] (fun i _ v wr => i = .int .i64 0 ∧ v = .slice none 0 0 ∧ wr = w) (fun _ _ _ _ => 0)
  case atStart => exact ⟨rfl, rfl, rfl⟩
  case round =>
    obtain ⟨rfl, rfl, rfl⟩ := hrel
    go_wp2_with fail
    first
      | exact ⟨rfl, HX.out⟩
      | (go_ret; exact ⟨rfl, HX.out⟩)
set_option maxHeartbeats 4000000 in
theorem names_w {w : World} {t : Nat} {u : Su} (h : TwI w t u) (hl : u.par.length ≤ 16) : Calls Tryz.prog 13 #[.pointer (some ⟨t, 0, none⟩)] w fun e w' => (∃ A c, e = .returned (.slice A u.par.length c)) ∧ Below w.heap.size w w' := by
  obtain ⟨w3, a, M, A, c, n1, n2, F, G, h1, rfl, h3, h4⟩ := h
  obtain ⟨_, k5, _, _, _, kl⟩ := h1.cells
  have hlen : M.length = u.par.length := by rw [h3.length_eq, List.length_map]
  have hcl := h1.row.cells
  have HC := Lib.hid (cloneSt A M.length c (M.map Value.string) w (by simp) hcl.1 hcl.2 (fun v hv => by obtain ⟨x, _, rfl⟩ := List.mem_map.1 hv; rfl) (by omega))
  rw [hlen] at HC k5
  clear h1 h3 h4 hcl hlen
  go_enter Tryz.func13, Tryz.ntmps13
  go_wp2_with (first | (go_at_call 32; refine HC.out.mono ?_; rintro e w5 ⟨A5, c5, rfl, -, hb5⟩) | fail)
  first
    | exact ⟨⟨A5, c5, rfl⟩, hb5⟩
    | (go_ret; exact ⟨⟨A5, c5, rfl⟩, hb5⟩)
theorem zeroDsk (w : World) : (zeroValue 62).run Tryz.prog w = .ok (ptV none) w := by kernel_rfl
set_option maxHeartbeats 8000000 in
theorem tquiet_w {w : World} {t : Nat} {u : Su} (h : TwI w t u) (hl : u.par.length ≤ 16) : Calls Tryz.prog 9 #[.pointer (some ⟨t, 0, none⟩)] w fun e w' => e = .returned (.bool true) ∧ Below w.heap.size w w' := by
  obtain ⟨w3, a, M, A, c, n1, n2, F, G, h1, rfl, h3, h4⟩ := h
  have hlen : M.length ≤ 16 := by rw [h3.length_eq, List.length_map]; exact hl
  have HT : Hid (∀ X, Below w.heap.size w X → TnI w3 X u a M A c n1 n2 F G ∧ DksAt X (w3.heap.size + 3) G M) := Lib.hid fun X hX => ⟨h1.below hX, h4.kf (Kf.of_below hX)⟩
  have HCl : Hid (∀ X, Below w.heap.size w X → X.cell? ⟨w3.heap.size + 2, 5, none⟩ = some (.slice A M.length c) ∧ X.cell? ⟨w3.heap.size + 2, 7, none⟩ = some (.map (some (w3.heap.size + 1))) ∧ X.cell? ⟨w3.heap.size + 2, 9, none⟩ = some (.slice none 0 0) ∧ w3.heap.size + 2 < X.heap.size) := Lib.hid fun X hX => by
    have h2 := h1.below hX
    obtain ⟨_, q5, _, q7, _, q9⟩ := h2.tw.cells
    exact ⟨q5, q7, q9, h2.lt⟩
  have HLk : Hid (∀ X x, Below w.heap.size w X → x ∈ M → ∃ q, (Instr.lookup 55 (.map (some (w3.heap.size + 1))) (.string x) false).run Tryz.prog X = .ok (.pointer (some ⟨q, 0, none⟩)) X ∧ Hid (Calls Tryz.prog 28 #[.pointer (some ⟨q, 0, none⟩)] X fun e w' => e = .returned (.bool true) ∧ Below X.heap.size X w')) := Lib.hid fun X x hX hx => by
    obtain ⟨q0, s, q, mv, bk, em, A2, c2, L', q1, q2⟩ := h4 x hx
    have h5 := (h1.below hX).dk.look Tryz.underlying55 (z := none) (zeroDsk X) trivial (x := x) (show curC.ok x from q0)
    rw [q1] at h5
    exact ⟨q, h5, Lib.hid (quiet_d (q2.below hX))⟩
  clear h1 h3 h4
  obtain ⟨k5, -, -, kl⟩ := HCl.out w (Below.refl _ _)
  generalize w3.heap.size + 2 = t at *
  generalize w3.heap.size + 1 = dm at *
  go_enter Tryz.func9, Tryz.ntmps9
  go_wp2_with fail
  clear k5 kl
  go_loopw [10, 4] (fun i _ wr => ∃ k : Nat, k ≤ M.length ∧ i = .int .i64 (k : Int) ∧ Hid (Below w.heap.size w wr)) (fun i _ _ => M.length - (RowKit.intOf i).toNat)
  case atStart => exact ⟨0, Nat.zero_le _, rfl, Lib.hid (Below.refl _ _)⟩
  case round =>
    obtain ⟨k, hk, rfl, HI⟩ := hrel
    by_cases hlt : k < M.length
    · have b1 : (k : Int) < (M.length : Int) := by omega
      obtain ⟨x, hx⟩ : ∃ x, M[k]? = some x := ⟨M[k], List.getElem?_eq_getElem hlt⟩
      have heq : M[k] = x := (List.getElem?_eq_some_iff.1 hx).2
      obtain ⟨g, rfl, _, hg, c0⟩ := (HT.out wr HI.out).1.row.at_ hlt
      rw [heq] at c0
      obtain ⟨q, hlk, HQ⟩ := HLk.out wr x HI.out (List.mem_of_getElem? hx)
      obtain ⟨-, k7, -, kl⟩ := HCl.out wr HI.out
      clear heq hx
      go_wp2_with (first | (go_at_call 28; refine HQ.out.mono ?_; rintro e w5 ⟨rfl, hb5⟩) | fail)
      have HX := Lib.hid (HI.out.trans (hb5.mono HI.out.size))
      go_roundw
      case rel => exact ⟨k + 1, by omega, by go_num, HX⟩
      case measure => simp [RowKit.intOf] <;> omega
    · have b1 : ¬ (k : Int) < (M.length : Int) := by omega
      obtain ⟨-, -, k9, kl⟩ := HCl.out wr HI.out
      go_wp2_with fail
      first
        | exact ⟨rfl, HI.out⟩
        | (go_ret; exact ⟨rfl, HI.out⟩)
end Go.Proofs.YtchkdidpnjakeaaGreatDoor
namespace Go.Proofs.YtchkdidpnjakeaaGreatDoor
open Go.RowKit Go.Maps Go.Lib Led
set_option linter.unusedVariables false
set_option maxRecDepth 100000

def kiV (c : Nat) : Array Value := #[.func (.func 74) #[] #[], .func (.func 77) #[] #[], .func (.func 73) #[] #[], .func (.func 78) #[] #[], .func (.func 73) #[] #[], .func (.func 79) #[] #[], .func (.func 75) #[] #[.pointer (some ⟨c, 0, none⟩)], .func (.func 80) #[] #[], .func (.func 76) #[] #[], .func (.func 81) #[] #[], .func (.func 74) #[] #[], .func (.func 82) #[] #[], .func (.func 74) #[] #[], .func (.func 83) #[] #[], .func (.func 74) #[] #[], .func (.func 84) #[] #[]]
set_option maxHeartbeats 8000000 in
theorem kinds_w (w : World) : Calls Tryz.prog 30 #[] w fun e w' => e = .returned (.agg (kiV (w.heap.size + 1))) ∧ Below w.heap.size w w' := by
  have HB : Hid (∀ o1 o2, Below w.heap.size w ((w.alloc o1).alloc o2)) := Lib.hid fun o1 o2 => ((Below.refl _ _).alloc (Nat.le_refl _) _).alloc (by simp) _
  have HH : Hid (((w.alloc (.cells (kiV (w.heap.size + 1)) 83)).alloc (.cells #[.func (.func 73) #[] #[]] 80)).heap[w.heap.size]? = some (.cells (kiV (w.heap.size + 1)) 83 (0, 0))) := Lib.hid (by
    rw [Below.heap_alloc _ _ _ (by simp)]
    exact heap_alloc_new _ _)
  have HIs : (Tryz.prog.info? 83).map (·.size) = some (kiV (w.heap.size + 1)).size := by
    have h : (Tryz.prog.info? 83).map (·.size) = some 16 := by kernel_rfl
    exact h
  have HIh := Lib.hid HIs
  clear HIs
  go_enter Tryz.func30, Tryz.ntmps30
  go_wp2_with fail
  refine bodyPost_ret (results_cell_row rfl _ _ w.heap.size 83 (kiV (w.heap.size + 1)) (0, 0) _ (by rfl) HH.out Tryz.underlying83 rfl HIh.out) rfl ?_
  exact ⟨rfl, HB.out _ _⟩
def stA : Array Value := #[.int .i64 1, .int .i64 0, .string ⟨#[]⟩, .int .i64 0, .int .i64 0, .string ⟨#[]⟩]
set_option maxHeartbeats 8000000 in
theorem place_w {w : World} {t : Nat} {u : Su} (h : TwI w t u) : Calls Tryz.prog 73 #[.pointer (some ⟨t, 0, none⟩), .agg #[.int .i64 1, .int .i64 0, .string ⟨#[]⟩, .int .i64 0, .int .i64 0, .string ⟨#[]⟩]] w fun e w' => e = .returned (.int .i64 3) ∧ Below w.heap.size w w' := by
  obtain ⟨-, k9, kl⟩ := h.cells
  obtain ⟨W1, hW1⟩ : ∃ W1, W1 = w.alloc (.cells #[.int .i64 1, .int .i64 0, .string ⟨#[]⟩, .int .i64 0, .int .i64 0, .string ⟨#[]⟩] 46) := ⟨_, rfl⟩
  have hb1 : Below w.heap.size w W1 := by rw [hW1]; exact (Below.refl _ _).alloc (Nat.le_refl _) _
  have hz : W1.heap[w.heap.size]? = some (.cells #[.int .i64 1, .int .i64 0, .string ⟨#[]⟩, .int .i64 0, .int .i64 0, .string ⟨#[]⟩] 46 (0, 0)) := by rw [hW1]; exact heap_alloc_new _ _
  have z1 : W1.cell? ⟨w.heap.size, 1, none⟩ = some (.int .i64 0) := by simp [World.cell?, hz]
  have zl : w.heap.size < W1.heap.size := (Array.getElem?_eq_some_iff.1 hz).1
  have k9' : W1.cell? ⟨t, 9, none⟩ = some (.slice none 0 0) := (hb1.cell (p := ⟨t, 9, none⟩) kl).trans k9
  have kl' : t < W1.heap.size := Nat.lt_of_lt_of_le kl hb1.size
  have HB := Lib.hid hb1
  have HW := Lib.hid hW1
  clear h hW1 hb1 hz k9 kl
  go_enter Tryz.func73, Tryz.ntmps73
  go_upto_region 1 with fail
  rw [← HW.out]
  clear HW
  go_quiet (fail)
  have HB2 : Hid (∀ n, Below w.heap.size w (W1.drewN n)) := Lib.hid fun n => below_drewM HB.out n
  go_wp2_with fail
  first
    | exact ⟨rfl, HB2.out _⟩
    | (go_ret; exact ⟨rfl, HB2.out _⟩)
set_option maxHeartbeats 8000000 in
theorem do_w {w : World} {t : Nat} {u : Su} (h : TwI w t u) : Calls Tryz.prog 12 #[.pointer (some ⟨t, 0, none⟩), .agg #[.int .i64 1, .int .i64 0, .string ⟨#[]⟩, .int .i64 0, .int .i64 0, .string ⟨#[]⟩]] w fun e w' => e = .returned (.int .i64 3) ∧ Below w.heap.size w w' := by
  obtain ⟨W1, hW1⟩ : ∃ W1, W1 = w.alloc (.cells #[.int .i64 1, .int .i64 0, .string ⟨#[]⟩, .int .i64 0, .int .i64 0, .string ⟨#[]⟩] 46) := ⟨_, rfl⟩
  have hb1 : Below w.heap.size w W1 := by rw [hW1]; exact (Below.refl _ _).alloc (Nat.le_refl _) _
  have hz : W1.heap[w.heap.size]? = some (.cells #[.int .i64 1, .int .i64 0, .string ⟨#[]⟩, .int .i64 0, .int .i64 0, .string ⟨#[]⟩] 46 (0, 0)) := by rw [hW1]; exact heap_alloc_new _ _
  have zl : w.heap.size < W1.heap.size := (Array.getElem?_eq_some_iff.1 hz).1
  have HZc : Hid (∀ X, Below W1.heap.size W1 X → X.cell? ⟨w.heap.size, 0, none⟩ = some (.int .i64 1) ∧ X.rangeAt w.heap.size 0 [.int .i64 1, .int .i64 0, .string ⟨#[]⟩, .int .i64 0, .int .i64 0, .string ⟨#[]⟩] ∧ w.heap.size < X.heap.size) := Lib.hid fun X hX => by
    have h := (hX.block _ zl).trans hz
    exact ⟨by simp [World.cell?, h], fun j v hv => by
      show X.cell? ⟨w.heap.size, 0 + j, none⟩ = some v
      rw [Nat.zero_add, World.cell?, h]
      simpa using hv, Nat.lt_of_lt_of_le zl hX.size⟩
  have HPl : Hid (∀ X, Below w.heap.size w X → Calls Tryz.prog 73 #[.pointer (some ⟨t, 0, none⟩), .agg #[.int .i64 1, .int .i64 0, .string ⟨#[]⟩, .int .i64 0, .int .i64 0, .string ⟨#[]⟩]] X fun e w' => e = .returned (.int .i64 3) ∧ Below X.heap.size X w') := Lib.hid fun X hX => place_w (h.below hX)
  have HB := Lib.hid hb1
  have HW := Lib.hid hW1
  have HKi := Lib.hid (kinds_w W1)
  have HIs : Hid ((Tryz.prog.info? 83).map (·.size) = some (kiV (W1.heap.size + 1)).size) := Lib.hid (by
    have h : (Tryz.prog.info? 83).map (·.size) = some 16 := by kernel_rfl
    exact h)
  have HSz : Hid (16 = (kiV (W1.heap.size + 1)).size) := Lib.hid rfl
  have HOn : Hid ((kiV (W1.heap.size + 1)).all (·.oneCell') = true) := Lib.hid (by simp [kiV, Value.oneCell'])
  clear h hW1 hb1 hz zl
  go_enter Tryz.func12, Tryz.ntmps12
  go_upto_region 1 with fail
  rw [← HW.out]
  clear HW
  go_upto_region 2 with (first
    | (go_at_call 30; refine HKi.out.mono ?_; rintro e w2 ⟨rfl, hb2⟩)
    | (refine wpList_store_row rfl 83 (.tmp 5) (.tmp 8) rfl w2.heap.size (kiV (W1.heap.size + 1)) rfl rfl 83 _ (heap_alloc_new _ _) HIs.out HSz.out HOn.out ?_; rw [setRow_allocB])
    | fail)
  obtain ⟨w4, hw4⟩ : ∃ w4, w4 = w2.alloc (.cells (kiV (W1.heap.size + 1)) 83) := ⟨_, rfl⟩
  have hb4 : Below W1.heap.size W1 w4 := by rw [hw4]; exact hb2.alloc hb2.size _
  have hk4 : w4.heap[w2.heap.size]? = some (.cells (kiV (W1.heap.size + 1)) 83 (0, 0)) := by rw [hw4]; exact heap_alloc_new _ _
  have hkl : w2.heap.size < w4.heap.size := (Array.getElem?_eq_some_iff.1 hk4).1
  have y2 : w4.cell? ⟨w2.heap.size, 2, none⟩ = some (.func (.func 73) #[] #[]) := by simp [World.cell?, hk4, kiV]
  have y3 : w4.cell? ⟨w2.heap.size, 3, none⟩ = some (.func (.func 78) #[] #[]) := by simp [World.cell?, hk4, kiV]
  rw [← hw4]
  have HB4 := Lib.hid hb4
  obtain ⟨z0, hrg, zl⟩ := HZc.out w4 hb4
  have HRg := Lib.hid hrg
  clear hw4 hb4 hk4 hrg hb2 HIs HSz HOn HKi
  go_upto_region 5 with fail
  obtain ⟨w5, hw5⟩ : ∃ w5, w5 = w4.alloc (.cells #[.func (.func 73) #[] #[], .func (.func 78) #[] #[]] 82) := ⟨_, rfl⟩
  have hb5 : Below W1.heap.size W1 w5 := by rw [hw5]; exact HB4.out.alloc HB4.out.size _
  have hk5 : w5.heap[w4.heap.size]? = some (.cells #[.func (.func 73) #[] #[], .func (.func 78) #[] #[]] 82 (0, 0)) := by rw [hw5]; exact heap_alloc_new _ _
  have y0 : w5.cell? ⟨w4.heap.size, 0, none⟩ = some (.func (.func 73) #[] #[]) := by simp [World.cell?, hk5]
  have yl : w4.heap.size < w5.heap.size := (Array.getElem?_eq_some_iff.1 hk5).1
  obtain ⟨z0', hrg, zl'⟩ := HZc.out w5 hb5
  have HRg5 := Lib.hid hrg
  have hbw := HB.out.trans (hb5.mono HB.out.size)
  have HC := Lib.hid (HPl.out w5 hbw)
  have HB5 := Lib.hid hbw
  have HIb : Hid ((Tryz.prog.info? 46).map (·.size) = some ([.int .i64 1, .int .i64 0, .string ⟨#[]⟩, .int .i64 0, .int .i64 0, .string ⟨#[]⟩] : List Value).length) := Lib.hid (by
    have h : (Tryz.prog.info? 46).map (·.size) = some 6 := by kernel_rfl
    exact h)
  rw [← hw5]
  clear hw5 hb5 hk5 hrg hbw y2 y3 hkl z0 zl HRg HZc HPl
  go_wp2_with (first
    | (refine wpList_load_mid rfl 46 (.tmp 3) rfl w.heap.size 0 rfl [.int .i64 1, .int .i64 0, .string ⟨#[]⟩, .int .i64 0, .int .i64 0, .string ⟨#[]⟩] _ HRg5.out Tryz.underlying46 rfl HIb.out ?_)
    | (go_at_call 73; refine HC.out.mono ?_; rintro e w6 ⟨rfl, hb6⟩)
    | fail)
  have HX := Lib.hid (HB5.out.trans (hb6.mono HB5.out.size))
  first
    | exact ⟨rfl, HX.out⟩
    | (go_ret; exact ⟨rfl, HX.out⟩)
end Go.Proofs.YtchkdidpnjakeaaGreatDoor
