/- The statement 'WireTells', out of its walk 'WireTells_walk': for every input the Go function returns true, and each argument reads as it read before. -/
import Derived.Test.YtbeoegppldjpoaaDoorRAddr6
import Derived.Deep.CutBlock
import Derived.Test.YtbeoegppldjpoaaDoorWClean2
import Derived.Test.YtbeoegppldjpoaaDoorWireR2
import Derived.BigQuiet
import Derived.Laws.StructEq
import Derived.Test.YtbeoegppldjpoaaDoorWireMade
import Derived.Test.YtbeoegppldjpoaaDoorWireBytes2
import Derived.Test.YtbeoegppldjpoaaDoorWireRead
import Derived.Test.YtbeoegppldjpoaaDoorBase
import Derived.OpenShut
import Derived.WideShapes
import Derived.DataReads
import Derived.DataElems
import Derived.Test.YtbeoegppldjpoaaDoorWirePure
import Derived.Deep.Cut
import Derived.Deep.RegionHeld3
import Derived.Laws.BitsAllLaws
import Derived.Test.YtbeoegppldjpoaaDoorShelf
import Derived.HandedShaped
import Derived.Handed
import Derived.Test.YtbeoegppldjpoaaDoorRows
import Derived.WalkKit
import Derived.ProofKit
import Derived.ShutString
import Derived.ChangeOld
import Derived.Below
import Derived.SizedLaws
import Derived.Test.YtbeoegppldjpoaaDoorCards
import Derived.Test.YtbeoegppldjpoaaDoorTie
import Derived.LaidMore
import Derived.Lay
import Derived.SevenTiedAt
import Derived.Stop.Joined
/- Addresses: the document's Mail. -/
namespace Go.Proofs.YtbeoegppldjpoaaDoor
open Go.RowKit Go.Lib
set_option linter.unusedVariables false
set_option linter.unusedSimpArgs false

theorem trim_left {x : UInt8} (r : List UInt8) (h : ([32, 9] : List UInt8).contains x = true) : Lib.trimS (x :: r) [32, 9] = Lib.trimS r [32, 9] := by
  unfold Lib.trimS Lib.trimLeftS Lib.trimRightS
  rw [List.reverse_cons, List.dropWhile_append]
  split
  · rename_i he
    rw [List.isEmpty_iff] at he
    rw [he, List.dropWhile_cons_of_pos h]
    rfl
  · rw [List.reverse_append]
    exact List.dropWhile_cons_of_pos h
theorem trim_right {x : UInt8} (r : List UInt8) (h : ([32, 9] : List UInt8).contains x = true) : Lib.trimS (r ++ [x]) [32, 9] = Lib.trimS r [32, 9] := by
  unfold Lib.trimS Lib.trimRightS
  rw [List.reverse_append]
  congr 2
  exact List.dropWhile_cons_of_pos h
theorem trim_done {l : List UInt8} (hh : ∀ c, l.head? = some c → ([32, 9] : List UInt8).contains c = false) (hl : ∀ c, l.getLast? = some c → ([32, 9] : List UInt8).contains c = false) : Lib.trimS l [32, 9] = l := by
  have h1 : Lib.trimRightS l [32, 9] = l := by
    unfold Lib.trimRightS
    have hr : l.reverse.dropWhile (([32, 9] : List UInt8).contains ·) = l.reverse := by
      cases hq : l.reverse with
      | nil => rfl
      | cons y r =>
        refine List.dropWhile_cons_of_neg ?_
        have : l.getLast? = some y := by rw [List.getLast?_eq_head?_reverse, hq]; rfl
        rw [hl y this]
        decide
    rw [hr, List.reverse_reverse]
  unfold Lib.trimS
  rw [h1]
  unfold Lib.trimLeftS
  cases l with
  | nil => rfl
  | cons x r =>
    refine List.dropWhile_cons_of_neg ?_
    rw [hh x rfl]
    decide
theorem spc (c : UInt8) : ([32, 9] : List UInt8).contains c = (decide (c.toNat = 32) || decide (c.toNat = 9)) := by
  have h1 : (c == 32) = decide (c.toNat = 32) := by
    by_cases h : c = 32
    · subst h; rfl
    · rw [beq_eq_false_iff_ne.2 h, decide_eq_false (show ¬ c.toNat = 32 from fun e => h (UInt8.toNat_inj.1 e))]
  have h2 : (c == 9) = decide (c.toNat = 9) := by
    by_cases h : c = 9
    · subst h; rfl
    · rw [beq_eq_false_iff_ne.2 h, decide_eq_false (show ¬ c.toNat = 9 from fun e => h (UInt8.toNat_inj.1 e))]
  simp only [List.contains_cons, h1, h2, List.contains_nil, Bool.or_false]
theorem plus_none {l : List UInt8} (h : 43 ∉ l) : plusL l = l := by
  unfold plusL
  rw [cutL_not h]
theorem plus_parts (l : List UInt8) (i : Nat) (hi : i < l.length) (hp : l[i] = 43) (hno : 43 ∉ l.take i) : cutL 43 l = some (l.take i, l.drop (i + 1)) := by
  have e : l = l.take i ++ 43 :: l.drop (i + 1) := by
    rw [← hp, ← List.drop_eq_getElem_cons hi, List.take_append_drop]
  exact (congrArg (cutL 43) e).trans (cutL_app _ hno)
theorem plus_noat {l : List UInt8} (i : Nat) (hi : i < l.length) (hp : l[i] = 43) (hno : 43 ∉ l.take i) (h64 : 64 ∉ l.drop i) : plusL l = l := by
  unfold plusL
  rw [plus_parts l i hi hp hno]
  simp only
  rw [cutL_not (fun hm => h64 (by rw [List.drop_eq_getElem_cons hi]; exact List.mem_cons_of_mem _ hm))]
theorem plus_found {l : List UInt8} (i k : Nat) (hi : i < l.length) (hp : l[i] = 43) (hno : 43 ∉ l.take i) (hik : i ≤ k) (hk : k < l.length) (h64 : l[k] = 64) (hn : 64 ∉ (l.drop i).take (k - i)) : plusL l = l.take i ++ l.drop k := by
  have hlt : i + 1 ≤ k := by
    rcases Nat.lt_or_ge i k with h | h
    · exact h
    · have e : i = k := Nat.le_antisymm hik h
      subst e
      rw [hp] at h64
      cases h64
  have e := seg_parts l (i + 1) k hlt hk
  rw [h64] at e
  have hn' : 64 ∉ (l.drop (i + 1)).take (k - (i + 1)) := fun hm => hn (by
    rw [List.drop_eq_getElem_cons hi, show k - i = (k - (i + 1)) + 1 by omega, List.take_succ_cons]
    exact List.mem_cons_of_mem _ hm)
  have hc : cutL 64 (l.drop (i + 1)) = some ((l.drop (i + 1)).take (k - (i + 1)), l.drop (k + 1)) := (congrArg (cutL 64) e).trans (cutL_app _ hn')
  unfold plusL
  rw [plus_parts l i hi hp hno]
  simp only
  rw [hc]
  simp only
  rw [← h64, ← List.drop_eq_getElem_cons hk]
theorem plus_len (l : List UInt8) : (plusL l).length ≤ l.length := by
  unfold plusL
  cases h : cutL 43 l with
  | none => exact Nat.le_refl _
  | some p =>
    obtain ⟨a, b⟩ := p
    obtain ⟨e, -⟩ := cutL_some h
    simp only
    cases h2 : cutL 64 b with
    | none => exact Nat.le_refl _
    | some q =>
      obtain ⟨c, d⟩ := q
      obtain ⟨e2, -⟩ := cutL_some h2
      rw [e, e2]
      simp
      omega
def szOf : Value → Nat
  | .string s => s.size
  | _ => 0

set_option maxHeartbeats 4000000 in
set_option maxRecDepth 100000 in
theorem RMail_calls (w : World) (s : ByteArray) (hs : s.size ≤ 100000) :
    Calls Tryd.prog 34 #[.string s] w fun e w' => e = .returned (.tuple #[.string (mailS s.data.toList).1, .bool (mailS s.data.toList).2]) ∧ Fr [] w w' := by
  obtain ⟨M, hM⟩ : ∃ M, M = mailOf s.data.toList := ⟨_, rfl⟩
  have hMl : M.length ≤ 100000 := by
    have h1 := plus_len ((Lib.trimS s.data.toList [32, 9]).map lowC)
    have h2 := trimS_len s.data.toList [32, 9]
    rw [List.length_map] at h1
    rw [len_size] at h2
    rw [hM]
    exact Nat.le_trans (Nat.le_trans h1 h2) hs
  have hc := fun W => rmail_calls W (bL M) (by rw [bL_size]; omega)
  rw [bL_data] at hc
  have hres : ∀ b, mailL M = b → mailS s.data.toList = if b then (bL M, true) else (⟨#[]⟩, false) := fun b h => by
    unfold mailS mailR
    rw [← hM, h]
    cases b <;> rfl
  generalize mailL M = mb at hc hres
  have hres2 := hres mb rfl
  obtain ⟨R1, R2, hR⟩ : ∃ a b, mailS s.data.toList = (a, b) := ⟨_, _, rfl⟩
  rw [hR] at hres2 ⊢
  simp only
  have HC := Lib.hid hc
  have HM := Lib.hid hM
  have HR := Lib.hid hres2
  clear hc hM hR hres2 hres hMl
  go_enter Tryd.func34, Tryd.ntmps34
  go_upto_block 0 with fail
  go_cut [0] from 11 to 25 (fun s0 wx => ∃ t : ByteArray, s0 = .string t ∧ t.size ≤ s.size ∧ wx = w ∧ Hid (Lib.trimS t.data.toList [32, 9] = Lib.trimS s.data.toList [32, 9] ∧ ∀ c, t.data.toList.head? = some c → ([32, 9] : List UInt8).contains c = false))
  case first =>
    go_wp2_with fail
    go_loopw [0] (fun v0 wr => ∃ t : ByteArray, v0 = .string t ∧ t.size ≤ s.size ∧ wr = w ∧ Hid (Lib.trimS t.data.toList [32, 9] = Lib.trimS s.data.toList [32, 9])) (fun v0 _ => szOf v0)
    case atStart => exact ⟨s, rfl, Nat.le_refl _, rfl, rfl⟩
    case round =>
      obtain ⟨t, rfl, ht, hwr, H⟩ := hrel
      have HW := Lib.hid hwr
      clear hwr
      by_cases h0 : t.size = 0
      · have h0' : (t.size : Int) = 0 := by omega
        have hE := str_emptyA h0
        subst hE
        clear h0 h0'
        go_wp2_with fail
        go_meet
        exact ⟨⟨#[]⟩, rfl, ht, HW.out, H.out, fun c h => by cases h⟩
      · have hx0 : 0 < t.size := by omega
        have hz0 : (0 : Int) < (t.size : Int) := by omega
        have hz1 : (1 : Int) ≤ (t.size : Int) := by omega
        have hz2 : 1 ≤ t.size := by omega
        have hl := len_size t
        have hd : t.data.toList = (t[0]'hx0) :: t.data.toList.drop 1 := by
          have h := List.drop_eq_getElem_cons (l := t.data.toList) (i := 0) (by omega)
          rw [List.drop_zero] at h
          exact h
        have hn : (t.extract 1 t.size).size = t.size - 1 := by rw [ByteArray.size_extract]; omega
        by_cases h32 : ((t[0]'hx0).toNat : Int) = 32
        · have hnx : Lib.trimS (t.extract 1 t.size).data.toList [32, 9] = Lib.trimS s.data.toList [32, 9] := by
            rw [ext_drop, ← H.out]
            conv => rhs; rw [hd]
            exact (trim_left _ (by rw [spc, decide_eq_true (by omega)]; rfl)).symm
          have HN := Lib.hid hnx
          have HS := Lib.hid hn
          clear hnx hd hl H hn
          go_wp2_with fail
          exact ⟨⟨_, rfl, by have := HS.out; omega, HW.out, HN⟩, by simp only [szOf]; have := HS.out; omega⟩
        · by_cases h9 : ((t[0]'hx0).toNat : Int) = 9
          · have hnx : Lib.trimS (t.extract 1 t.size).data.toList [32, 9] = Lib.trimS s.data.toList [32, 9] := by
              rw [ext_drop, ← H.out]
              conv => rhs; rw [hd]
              exact (trim_left _ (by rw [spc, decide_eq_true (show (t[0]'hx0).toNat = 9 by omega), Bool.or_true])).symm
            have HN := Lib.hid hnx
            have HS := Lib.hid hn
            clear hnx hd hl H hn
            go_wp2_with fail
            exact ⟨⟨_, rfl, by have := HS.out; omega, HW.out, HN⟩, by simp only [szOf]; have := HS.out; omega⟩
          · have hne : ∀ c, t.data.toList.head? = some c → ([32, 9] : List UInt8).contains c = false := fun c h => by
              rw [hd] at h
              injection h with h
              rw [← h, spc, decide_eq_false (by omega), decide_eq_false (by omega)]
              rfl
            have HN := Lib.hid hne
            have b32 : (((t[0]'hx0).toNat : Int) == 32) = false := beq_eq_false_iff_ne.2 h32
            have b9 : (((t[0]'hx0).toNat : Int) == 9) = false := beq_eq_false_iff_ne.2 h9
            clear hne hd hl hn
            go_wp2_with fail
            go_meet
            exact ⟨t, rfl, ht, HW.out, H.out, HN.out⟩
  case rest =>
    obtain ⟨t1, rfl, ht1, hwc, HT1⟩ := hcut
    have HW1 := Lib.hid hwc
    clear hwc
    go_upto_block 2 with fail
    go_cut [0] from 26 to 49 (fun s0 wx => ∃ t : ByteArray, s0 = .string t ∧ t.size ≤ s.size ∧ wx = w ∧ Hid (t.data.toList = Lib.trimS s.data.toList [32, 9]))
    case first =>
      go_wp2_with fail
      go_loopw [0] (fun v0 wr => ∃ t : ByteArray, v0 = .string t ∧ t.size ≤ s.size ∧ wr = w ∧ Hid (Lib.trimS t.data.toList [32, 9] = Lib.trimS s.data.toList [32, 9] ∧ ∀ c, t.data.toList.head? = some c → ([32, 9] : List UInt8).contains c = false)) (fun v0 _ => szOf v0)
      case atStart => exact ⟨t1, rfl, ht1, HW1.out, HT1⟩
      case round =>
        clear HT1
        obtain ⟨t, rfl, ht, hwr, H⟩ := hrel
        have HW := Lib.hid hwr
        clear hwr
        by_cases h0 : t.size = 0
        · have h0' : (t.size : Int) = 0 := by omega
          have hE := str_emptyA h0
          have hq : Lib.trimS t.data.toList [32, 9] = t.data.toList := trim_done H.out.2 (fun c h => by rw [empty_list h0] at h; cases h)
          have HQ := Lib.hid hq
          clear hq
          subst hE
          clear h0 h0'
          go_wp2_with fail
          go_meet
          exact ⟨⟨#[]⟩, rfl, ht, HW.out, HQ.out.symm.trans H.out.1⟩
        · have hx0 : t.size - 1 < t.size := by omega
          have hz0 : (0 : Int) < (t.size : Int) := by omega
          have hz1 : (1 : Int) ≤ (t.size : Int) := by omega
          have hz2 : 1 ≤ t.size := by omega
          have hx2 : ((t.size : Int) - 1).toNat < t.size := by omega
          have hx3 : (0 : Int) ≤ (t.size : Int) - 1 := by omega
          have hx4 : (t.size : Int) - 1 < (t.size : Int) := by omega
          have hx5 : (t.size : Int) - 1 ≤ (t.size : Int) := by omega
          have ht1' : ((t.size : Int) - 1).toNat = t.size - 1 := by omega
          have hl := len_size t
          have hd : t.data.toList = t.data.toList.take (t.size - 1) ++ [t[t.size - 1]'hx0] := by
            have h := List.take_succ_eq_append_getElem (l := t.data.toList) (i := t.size - 1) (by omega)
            rw [show t.size - 1 + 1 = t.data.toList.length by omega, List.take_length] at h
            exact h
          have hn : (t.extract 0 (t.size - 1)).size = t.size - 1 := by rw [ByteArray.size_extract]; omega
          have hhd : ∀ c, (t.extract 0 (t.size - 1)).data.toList.head? = some c → ([32, 9] : List UInt8).contains c = false := fun c h => by
            rw [ext_take, List.head?_take] at h
            split at h
            · cases h
            · exact H.out.2 c h
          by_cases h32 : ((t[t.size - 1]'hx0).toNat : Int) = 32
          · have hnx : Lib.trimS (t.extract 0 (t.size - 1)).data.toList [32, 9] = Lib.trimS s.data.toList [32, 9] := by
              rw [ext_take, ← H.out.1]
              conv => rhs; rw [hd]
              exact (trim_right _ (by rw [spc, decide_eq_true (by omega)]; rfl)).symm
            have HN := Lib.hid (And.intro hnx hhd)
            have HS := Lib.hid hn
            have b32 : (((t[t.size - 1]'hx0).toNat : Int) == 32) = true := beq_iff_eq.2 h32
            clear hnx hhd hd hl H hn
            go_wp2_with fail
            exact ⟨⟨_, rfl, by have := HS.out; omega, HW.out, HN⟩, by simp only [szOf]; have := HS.out; omega⟩
          · have b32 : (((t[t.size - 1]'hx0).toNat : Int) == 32) = false := beq_eq_false_iff_ne.2 h32
            by_cases h9 : ((t[t.size - 1]'hx0).toNat : Int) = 9
            · have hnx : Lib.trimS (t.extract 0 (t.size - 1)).data.toList [32, 9] = Lib.trimS s.data.toList [32, 9] := by
                rw [ext_take, ← H.out.1]
                conv => rhs; rw [hd]
                exact (trim_right _ (by rw [spc, decide_eq_true (show (t[t.size - 1]'hx0).toNat = 9 by omega), Bool.or_true])).symm
              have HN := Lib.hid (And.intro hnx hhd)
              have HS := Lib.hid hn
              have b9 : (((t[t.size - 1]'hx0).toNat : Int) == 9) = true := beq_iff_eq.2 h9
              clear hnx hhd hd hl H hn
              go_wp2_with fail
              exact ⟨⟨_, rfl, by have := HS.out; omega, HW.out, HN⟩, by simp only [szOf]; have := HS.out; omega⟩
            · have hne : ∀ c, t.data.toList.getLast? = some c → ([32, 9] : List UInt8).contains c = false := fun c h => by
                rw [hd, List.getLast?_append] at h
                simp only [List.getLast?_singleton, Option.some_or, Option.some.injEq] at h
                rw [← h, spc, decide_eq_false (by omega), decide_eq_false (by omega)]
                rfl
              have HN := Lib.hid ((trim_done H.out.2 hne).symm.trans H.out.1)
              have b9 : (((t[t.size - 1]'hx0).toNat : Int) == 9) = false := beq_eq_false_iff_ne.2 h9
              clear hne hd hl hn hhd
              go_wp2_with fail
              go_meet
              exact ⟨t, rfl, ht, HW.out, HN⟩
    case rest =>
      clear HT1 HW1
      obtain ⟨t, rfl, ht, hwc, HT⟩ := hcut
      have HW2 := Lib.hid hwc
      clear hwc
      go_wp2_with fail
      go_loopw [4, 5] (fun v4 v5 wr => ∃ (i : Nat) (r : List Nat), v5 = .int .i64 i ∧ i ≤ t.size ∧ Hid (SRow 5 1 wr v4 r i (Lib.strCells (bL ((t.data.toList.take i).map lowC))) ∧ Fr [] w wr ∧ ∀ i, i ∈ r → w.heap.size ≤ i)) (fun _ v5 _ => t.size - (intOf v5).toNat)
      case atStart => exact ⟨0, [], rfl, Nat.zero_le _, Lib.hid ⟨SRow.nil _ _ _, by rw [HW2.out]; exact Fr.refl _ _, by simp⟩⟩
      case round =>
        clear HW2
        obtain ⟨i, r, rfl, hi, H⟩ := hrel
        by_cases hlt : i < t.size
        · have htk := take_nxt t i hlt
          have hi0 : (0 : Int) ≤ (i : Int) := by omega
          have hi1 : (i : Int) < (t.size : Int) := by omega
          have hc256 : ((t[i]).toNat : Int) ≤ 255 := by have := (t[i]).toNat_lt; omega
          have hmp : (t.data.toList.take (i + 1)).map lowC = (t.data.toList.take i).map lowC ++ [lowC (t[i]'hlt)] := by
            rw [htk, List.map_append]
            rfl
          generalize hF : (t.data.toList.take i).map lowC = F at H hmp
          obtain ⟨A2, cap2, rfl, hnc, hcm, hrd, hblk⟩ := H.out.1.reads
          clear hrd hblk htk hF
          by_cases hup : 65 ≤ (t[i]).toNat ∧ (t[i]).toNat ≤ 90
          · obtain ⟨h65, h90⟩ := hup
            obtain ⟨d, hd⟩ : ∃ d, UInt8.ofNat ((t[i]).toNat + 32) = d := ⟨_, rfl⟩
            have hdn : d.toNat = (t[i]).toNat + 32 := by rw [← hd, UInt8.toNat_ofNat']; omega
            have hlo : lowC (t[i]'hlt) = d := by unfold lowC; rw [if_pos ⟨h65, h90⟩, hd]
            rw [hlo] at hmp
            have HSN := Lib.hid hmp
            have h65' : (65 : Int) ≤ ((t[i]).toNat : Int) := by omega
            have h90' : ((t[i]).toNat : Int) ≤ 90 := by omega
            have hw1 : IntKind.u8.wrap (((t[i]).toNat : Int) - 65) = ((t[i]).toNat : Int) - 65 := by rw [IntKind.wrap_u8]; omega
            have hw2 : IntKind.u8.wrap (((t[i]).toNat : Int) - 65 + 97) = (d.toNat : Int) := by rw [IntKind.wrap_u8, hdn]; omega
            have hsm : ((t[i]).toNat : Int) - 65 + 97 = (d.toNat : Int) := by omega
            clear hmp hlo hd hdn
            go_wp2_with (at_builtin; refine wpList_sapp rfl _ _ 53 rfl 5 Tryd.underlying53 _ 1 1 infoByte rfl (by decide) (.slice A2 i cap2) r i _ rfl (H.out.1.keep ((Fr.refl [] _).alloc _) (by simp)) ⟨wr.heap.size, 0, none⟩ 1 1 [.int .u8 (d.toNat : Int)] rfl rfl (by exact RdV.new _ #[.int .u8 (d.toNat : Int)] 5 rfl rfl) (by simp [Value.oneCell']) (by simp only [maxLen]; omega) (by omega) ?_)
            intro v' w2 r' h6 hf2 hn2
            go_wp2_with fail
            have h7 : Fr r wr w2 := ((Fr.refl r wr).alloc _).trans hf2 (fun k hk => .inl hk)
            refine ⟨⟨i + 1, r', by go_num, by omega, Lib.hid ⟨?_, H.out.2.1.trans h7 (fun i hi => .inr (H.out.2.2 i hi)), fun i hi => (hn2 i hi).elim (H.out.2.2 i) (fun h9 => by have := H.out.2.1.size; first | omega | (simp at h9; omega))⟩⟩, by simp only [intOf]; omega⟩
            rw [HSN.out, ← strCells_snoc]
            exact h6
          · have hlo : lowC (t[i]'hlt) = t[i]'hlt := by unfold lowC; rw [if_neg hup]
            rw [hlo] at hmp
            have HSN := Lib.hid hmp
            clear hmp hlo
            by_cases h65 : (65 : Int) ≤ ((t[i]).toNat : Int)
            · have h90' : ¬ ((t[i]).toNat : Int) ≤ 90 := by omega
              clear hup
              go_wp2_with (at_builtin; refine wpList_sapp rfl _ _ 53 rfl 5 Tryd.underlying53 _ 1 1 infoByte rfl (by decide) (.slice A2 i cap2) r i _ rfl (H.out.1.keep ((Fr.refl [] _).alloc _) (by simp)) ⟨wr.heap.size, 0, none⟩ 1 1 [.int .u8 ((t[i]).toNat : Int)] rfl rfl (by exact RdV.new _ #[.int .u8 ((t[i]).toNat : Int)] 5 rfl rfl) (by simp [Value.oneCell']) (by simp only [maxLen]; omega) (by omega) ?_)
              intro v' w2 r' h6 hf2 hn2
              go_wp2_with fail
              have h7 : Fr r wr w2 := ((Fr.refl r wr).alloc _).trans hf2 (fun k hk => .inl hk)
              refine ⟨⟨i + 1, r', by go_num, by omega, Lib.hid ⟨?_, H.out.2.1.trans h7 (fun i hi => .inr (H.out.2.2 i hi)), fun i hi => (hn2 i hi).elim (H.out.2.2 i) (fun h9 => by have := H.out.2.1.size; first | omega | (simp at h9; omega))⟩⟩, by simp only [intOf]; omega⟩
              rw [HSN.out, ← strCells_snoc]
              exact h6
            · clear hup
              go_wp2_with (at_builtin; refine wpList_sapp rfl _ _ 53 rfl 5 Tryd.underlying53 _ 1 1 infoByte rfl (by decide) (.slice A2 i cap2) r i _ rfl (H.out.1.keep ((Fr.refl [] _).alloc _) (by simp)) ⟨wr.heap.size, 0, none⟩ 1 1 [.int .u8 ((t[i]).toNat : Int)] rfl rfl (by exact RdV.new _ #[.int .u8 ((t[i]).toNat : Int)] 5 rfl rfl) (by simp [Value.oneCell']) (by simp only [maxLen]; omega) (by omega) ?_)
              intro v' w2 r' h6 hf2 hn2
              go_wp2_with fail
              have h7 : Fr r wr w2 := ((Fr.refl r wr).alloc _).trans hf2 (fun k hk => .inl hk)
              refine ⟨⟨i + 1, r', by go_num, by omega, Lib.hid ⟨?_, H.out.2.1.trans h7 (fun i hi => .inr (H.out.2.2 i hi)), fun i hi => (hn2 i hi).elim (H.out.2.2 i) (fun h9 => by have := H.out.2.1.size; first | omega | (simp at h9; omega))⟩⟩, by simp only [intOf]; omega⟩
              rw [HSN.out, ← strCells_snoc]
              exact h6
        · obtain rfl : i = t.size := by omega
          have hH := H.out
          rw [List.take_of_length_le (by rw [len_size]; exact Nat.le_refl _)] at hH
          have hMT : M = plusL (t.data.toList.map lowC) := by rw [HM.out, HT.out]; rfl
          have hTs : (t.data.toList.map lowC).length = t.size := by rw [List.length_map, len_size]
          generalize t.data.toList.map lowC = T at hH hMT hTs
          have hz : (bL T).size = t.size := by rw [bL_size, hTs]
          have hH1 := hH.1
          obtain ⟨A2, cap2, rfl, hnc, hcm, hrd, hblk⟩ := hH1.reads
          have hsp : ∀ ad, A2 = some ad → ad.spot = none := by
            rintro ad rfl
            rcases hH1.1.2 with ⟨h1, _⟩ | ⟨g, cap, cur, h1, _⟩ <;> cases h1
            rfl
          have hcv := fun c => run_toString (P := Tryd.prog) (w := wr) (c := c) Tryd.underlying53 Tryd.underlying5 Tryd.underlying9 hz.symm hrd hsp
          have HF := Lib.hid hH.2.1
          have HMT := Lib.hid hMT
          have HZ := Lib.hid hz
          have HTS := Lib.hid hTs
          have hTn : T.length ≤ 100000 := by omega
          clear hH hH1 H hrd hblk hz hsp hMT hTs HM HT
          go_upto_block 6 with fail
          clear hcv
          obtain ⟨B, hB⟩ : ∃ B, B = bL T := ⟨_, rfl⟩
          rw [← hB]
          have hBn : B.size ≤ 100000 := by rw [hB, bL_size]; exact hTn
          have hBd : B.data.toList = T := by rw [hB, bL_data]
          have hMB : M = plusL B.data.toList := by rw [hBd]; exact HMT.out
          have HMB := Lib.hid hMB
          clear hB hBd HZ HTS hTn hMB HMT
          go_cut [7, 8, 9] from 74 to 101 (fun s7 s8 s9 wx => s7 = .string (bL M) ∧ Hid (Fr [] w wx))
          case first =>
            clear HC HR
            go_wp2_with fail
            go_loopw [7, 8] (fun v7 v8 wr => ∃ i : Nat, v7 = .string B ∧ v8 = .int .i64 i ∧ i ≤ B.size ∧ Hid (43 ∉ B.data.toList.take i ∧ Fr [] w wr)) (fun _ v8 _ => B.size - (intOf v8).toNat)
            case atStart => exact ⟨0, rfl, rfl, Nat.zero_le _, by rw [List.take_zero]; exact ⟨by simp, HF.out⟩⟩
            case round =>
              clear HF
              obtain ⟨i, rfl, rfl, hi, H⟩ := hrel
              by_cases hlt : i < B.size
              · have hil : i < B.data.toList.length := by rw [len_size]; exact hlt
                have hg : B.data.toList[i] = B[i]'hlt := rfl
                by_cases h43 : B[i]'hlt = 43
                · have hd0 : ((B[i]'hlt).toNat : Int) = 43 := by rw [h43]; rfl
                  have hdn : (((B[i]'hlt).toNat : Int) != 43) = false := bne_eq_false_iff_eq.2 hd0
                  have HP := Lib.hid (hg.trans h43)
                  clear h43 hg
                  go_wp2_with fail
                  go_loopw [7, 9] (fun v7 v9 wz => ∃ k : Nat, v7 = .string B ∧ v9 = .int .i64 k ∧ i ≤ k ∧ k ≤ B.size ∧ Hid (64 ∉ (B.data.toList.drop i).take (k - i) ∧ Fr [] w wz)) (fun _ v9 _ => B.size - (intOf v9).toNat)
                  case atStart => exact ⟨i, rfl, rfl, Nat.le_refl _, hi, by rw [Nat.sub_self, List.take_zero]; exact ⟨by simp, H.out.2⟩⟩
                  case round =>
                    obtain ⟨k, rfl, rfl, hik, hk, H2⟩ := hrel
                    by_cases hkl : k < B.size
                    · have hkl' : k < B.data.toList.length := by rw [len_size]; exact hkl
                      have hgk : B.data.toList[k] = B[k]'hkl := rfl
                      by_cases h64 : B[k]'hkl = 64
                      · have hbm : B.extract 0 i ++ B.extract k B.size = bL M := by
                          rw [HMB.out, plus_found i k hil HP.out H.out.1 hik hkl' (hgk.trans h64) H2.out.1]
                          refine bL_of ?_
                          rw [ByteArray.data_append, Array.toList_append, ext_take, ext_drop]
                        have hd6 : ((B[k]'hkl).toNat : Int) = 64 := by rw [h64]; rfl
                        have z1 : (B.extract 0 i).size ≤ 100000 := by rw [ByteArray.size_extract]; omega
                        have z2 : (B.extract k B.size).size ≤ 100000 := by rw [ByteArray.size_extract]; omega
                        have g1 : (9223372036854775807 < (B.extract 0 i).size + (B.extract k B.size).size) = False := eq_false (by omega)
                        have HBM := Lib.hid hbm
                        have HF2 := Lib.hid H2.out.2
                        clear hbm h64 hgk z1 z2 H H2 HP hdn hd0
                        go_wp2_with fail
                        go_quiet (fail)
                        go_wp2_with fail
                        go_meet
                        exact ⟨congrArg Value.string HBM.out, by first | exact HF2 | exact Lib.hid (HF2.out.drewN _)⟩
                      · have hd6 : ¬ ((B[k]'hkl).toNat : Int) = 64 := fun e => h64 (UInt8.toNat_inj.1 (by show _ = 64; omega))
                        have hn : 64 ∉ (B.data.toList.drop i).take (k + 1 - i) := by
                          rw [seg_next _ i k hik hkl', hgk]
                          simp [H2.out.1, Ne.symm h64]
                        have HN := Lib.hid (And.intro hn H2.out.2)
                        clear hn h64 hgk H2
                        go_wp2_with fail
                        exact ⟨⟨k + 1, rfl, by go_num, by omega, by omega, HN⟩, by simp only [intOf]; omega⟩
                    · obtain rfl : k = B.size := by omega
                      have hbm : B = bL M := by
                        have h := H2.out.1
                        rw [List.take_of_length_le (by rw [List.length_drop, len_size]; exact Nat.le_refl _)] at h
                        rw [HMB.out, plus_noat i hil HP.out H.out.1 h, bL_list]
                      have HBM := Lib.hid hbm
                      have HF2 := Lib.hid H2.out.2
                      clear hbm H H2 HP hdn hd0
                      go_wp2_with fail
                      go_meet
                      exact ⟨congrArg Value.string HBM.out, HF2⟩
                · have hd0 : ¬ ((B[i]'hlt).toNat : Int) = 43 := fun e => h43 (UInt8.toNat_inj.1 (by show _ = 43; omega))
                  have hn : 43 ∉ B.data.toList.take (i + 1) := by
                    rw [List.take_succ_eq_append_getElem hil, hg]
                    simp [H.out.1, Ne.symm h43]
                  have HN := Lib.hid (And.intro hn H.out.2)
                  clear hn h43 hg H
                  go_wp2_with fail
                  exact ⟨⟨i + 1, rfl, by go_num, by omega, HN⟩, by simp only [intOf]; omega⟩
              · obtain rfl : i = B.size := by omega
                have hbm : B = bL M := by
                  have h := H.out.1
                  rw [List.take_of_length_le (by rw [len_size]; exact Nat.le_refl _)] at h
                  rw [HMB.out, plus_none h, bL_list]
                have HBM := Lib.hid hbm
                have HF2 := Lib.hid H.out.2
                clear hbm H
                go_wp2_with fail
                go_meet
                exact ⟨congrArg Value.string HBM.out, HF2⟩
          case rest =>
            clear HF HMB
            obtain ⟨rfl, HF6⟩ := hcut
            have HRE := Lib.hid HR.out
            clear HR
            cases mb
            · have hE := HRE.out
              simp only [Bool.false_eq_true, if_false] at hE
              injection hE with hE1 hE2
              subst hE1 hE2
              clear HRE
              go_wp2_with fail
              (with_reducible refine (HC.out _).mono ?_)
              rintro e w1 ⟨rfl, rfl⟩
              go_wp2_with fail
              go_ret2
              exact ⟨rfl, HF6.out⟩
            · have hE := HRE.out
              simp only [if_true] at hE
              injection hE with hE1 hE2
              subst hE1 hE2
              clear HRE
              go_wp2_with fail
              (with_reducible refine (HC.out _).mono ?_)
              rintro e w1 ⟨rfl, rfl⟩
              go_wp2_with fail
              go_ret2
              exact ⟨rfl, HF6.out⟩
end Go.Proofs.YtbeoegppldjpoaaDoor

/- The contracts of wire.Has and of the document's Clean, Bytes and Reply (layer 19). -/
namespace Go.Proofs.YtbeoegppldjpoaaDoor
open Go.RowKit
set_option linter.unusedVariables false
set_option linter.unusedSimpArgs false
attribute [local go_sem] mildAt mildUpon

theorem rclean_end {R : Ending → World → Prop} {tmps : Array Value} {W : World} {b : Nat} {x0 x1 x2 x3 x4 x5 x6 y : Value} (hb : tmps.getD 2 undef = .pointer (some ⟨b, 0, none⟩)) (hy : tmps.getD 3 undef = y) (hc : W.heap[b]? = some (.cells #[x0, x1, x2, x3, x4, x5, x6] 23 (0, 0))) (h : R (.returned (.tuple #[.agg #[x0, x1, x2, x3, x4, x5, x6], y])) W) :
    bodyPost Tryd.prog Tryd.f21 R Exit.ret { tmps := tmps, defers := [] } W := by
  have hres : Tryd.f21.results = #[.cell 2 23, .tmp 3] := by kernel_rfl
  obtain ⟨d0, d1, d2, d3, d4, d5, d6⟩ := rq_cells hc
  refine bodyPost_ret (v := .tuple #[.agg #[x0, x1, x2, x3, x4, x5, x6], y]) ?_ rfl h
  rw [Array.getD_eq_getD_getElem?] at hb hy
  simp only [results, hres]
  go_simp
set_option maxHeartbeats 4000000 in
set_option maxRecDepth 100000 in
theorem RClean_calls (w : World) (k pu : Int) (so ma ot se pa : ByteArray) (hs : (Rq.mk k pu so ma ot se pa).short 100000) :
    Calls Tryd.prog 21 #[.agg #[.int .i64 k, .int .i64 pu, .string so, .string ma, .string ot, .string se, .string pa]] w fun e w' => e = .returned (.tuple #[(cleanRq ⟨k, pu, so, ma, ot, se, pa⟩).1.val, .bool (cleanRq ⟨k, pu, so, ma, ot, se, pa⟩).2]) ∧ Fr [] w w' := by
  unfold cleanRq
  simp only
  have hck := fun W => R19Check W k pu so ma ot se pa ⟨Nat.le_trans hs.1 (by decide), Nat.le_trans hs.2.1 (by decide), Nat.le_trans hs.2.2.1 (by decide), Nat.le_trans hs.2.2.2.1 (by decide), Nat.le_trans hs.2.2.2.2 (by decide)⟩
  have hof := fun W => Has_calls W k
  unfold HasPost at hof
  generalize (Rq.mk k pu so ma ot se pa).ok = ok at *
  generalize ptOf k = p at *
  generalize kIs k = kb at *
  obtain ⟨p0, p1, p2, p3, p4⟩ := p
  obtain ⟨-, hs1, hs2, -, -⟩ := hs
  simp only at hs1 hs2 ⊢
  have hcase : ((k == 8) = true ∧ kOth k = true) ∨ ((k == 8) = false ∧ (k == 11) = true ∧ kOth k = true) ∨ ((k == 8) = false ∧ (k == 11) = false ∧ (k == 13) = true ∧ kOth k = true) ∨ ((k == 8) = false ∧ (k == 11) = false ∧ (k == 13) = false ∧ kOth k = false) := by
    by_cases h8 : k = 8
    · exact .inl ⟨by rw [h8]; rfl, by rw [h8]; rfl⟩
    · by_cases h11 : k = 11
      · exact .inr (.inl ⟨by rw [h11]; rfl, by rw [h11]; rfl, by rw [h11]; rfl⟩)
      · by_cases h13 : k = 13
        · exact .inr (.inr (.inl ⟨by rw [h13]; rfl, by rw [h13]; rfl, by rw [h13]; rfl, by rw [h13]; rfl⟩))
        · exact .inr (.inr (.inr ⟨beq_eq_false_iff_ne.2 h8, beq_eq_false_iff_ne.2 h11, beq_eq_false_iff_ne.2 h13, by unfold kOth; rw [decide_eq_false h8, decide_eq_false h11, decide_eq_false h13]; rfl⟩))
  have k1 := fun W => RMail_calls W ma hs1
  have k2 := fun W => RMail_calls W ot hs2
  have e1 : mC ma p0 = if p0 = true then mailS ma.data.toList else (ma, true) := rfl
  have e2 : mC ot (kOth k) = if kOth k = true then mailS ot.data.toList else (ot, true) := rfl
  generalize mC ma p0 = c1 at *
  generalize mC ot (kOth k) = c2 at *
  generalize kOth k = has at *
  obtain ⟨ma', b1⟩ := c1
  obtain ⟨ot', b2⟩ := c2
  generalize mailS ma.data.toList = m1 at *
  generalize mailS ot.data.toList = m2 at *
  obtain ⟨t1, is1⟩ := m1
  obtain ⟨t2, is2⟩ := m2
  simp only at k1 k2 e1 e2 ⊢
  obtain ⟨res, hres⟩ : ∃ res, (ok && b1 && b2) = res := ⟨_, rfl⟩
  rw [hres]
  have HRES := Lib.hid hres
  have HCK := Lib.hid hck
  have K1 := Lib.hid k1
  have K2 := Lib.hid k2
  have E1 := Lib.hid e1
  have E2 := Lib.hid e2
  have HC := Lib.hid hcase
  simp only [Pt.val] at hof
  have HOF := Lib.hid hof
  clear hof hck k1 k2 hs1 hs2 hcase e1 e2 hres
  go_enter Tryd.func21, Tryd.ntmps21
  go_wp2_with fail
  have hr0 := alloc_keep (o := (.cells #[.int .i64 0, .int .i64 0, .string ⟨#[]⟩, .string ⟨#[]⟩, .string ⟨#[]⟩, .string ⟨#[]⟩, .string ⟨#[]⟩] 23)) (heap_alloc_new w (.cells #[.int .i64 k, .int .i64 pu, .string so, .string ma, .string ot, .string se, .string pa] 23))
  have hz0 := heap_alloc_new (w.alloc (.cells #[.int .i64 k, .int .i64 pu, .string so, .string ma, .string ot, .string se, .string pa] 23)) (.cells #[.int .i64 0, .int .i64 0, .string ⟨#[]⟩, .string ⟨#[]⟩, .string ⟨#[]⟩, .string ⟨#[]⟩, .string ⟨#[]⟩] 23)
  have hF0 : Fr [] w ((w.alloc (.cells #[.int .i64 k, .int .i64 pu, .string so, .string ma, .string ot, .string se, .string pa] 23)).alloc (.cells #[.int .i64 0, .int .i64 0, .string ⟨#[]⟩, .string ⟨#[]⟩, .string ⟨#[]⟩, .string ⟨#[]⟩, .string ⟨#[]⟩] 23)) := ((Fr.refl _ _).alloc _).alloc _
  have hsz : (w.alloc (.cells #[.int .i64 k, .int .i64 pu, .string so, .string ma, .string ot, .string se, .string pa] 23)).heap.size = w.heap.size + 1 := by simp
  rw [hsz] at hz0
  clear hsz
  generalize (w.alloc (.cells #[.int .i64 k, .int .i64 pu, .string so, .string ma, .string ot, .string se, .string pa] 23)).alloc (.cells #[.int .i64 0, .int .i64 0, .string ⟨#[]⟩, .string ⟨#[]⟩, .string ⟨#[]⟩, .string ⟨#[]⟩, .string ⟨#[]⟩] 23) = W0 at *
  obtain ⟨Z, hZ⟩ : ∃ Z, w.heap.size + 1 = Z := ⟨_, rfl⟩
  obtain ⟨R, hR⟩ : ∃ R, w.heap.size = R := ⟨_, rfl⟩
  rw [hZ] at hz0
  rw [hR] at hr0
  have HN := Lib.hid (show w.heap.size ≤ R ∧ R ≠ Z ∧ w.heap.size ≤ Z from by omega)
  rw [hZ]
  rw [hR]
  clear hZ hR
  obtain ⟨c0, c1, c2, c3, c4, c5, c6⟩ := rq_cells hr0
  go_wp2_with fail
  clear c0 c1 c2 c3 c4 c5 c6
  (with_reducible refine (HCK.out _).mono ?_)
  rintro e w1 ⟨rfl, hf1⟩
  have hr1 := blk_keep hr0 hf1 (by simp)
  have HZ1 := Lib.hid (blk_keep hz0 hf1 (by simp))
  have HF1 := Lib.hid (hF0.then hf1)
  clear hr0 hz0 hF0 hf1 HCK
  cases ok
  · obtain rfl : res = false := HRES.out.symm
    clear HRES
    go_wp2_with (refine wpList_store_row rfl 23 _ _ rfl Z #[.int .i64 0, .int .i64 0, .string ⟨#[]⟩, .string ⟨#[]⟩, .string ⟨#[]⟩, .string ⟨#[]⟩, .string ⟨#[]⟩] rfl rfl 23 _ HZ1.out infoRq rfl (by simp [Value.oneCell']) ?_)
    refine rclean_end (b := Z) rfl rfl (setRow_heap _ _ _ _ _ _ HZ1.out) ⟨rfl, setRow_fr2 _ _ HF1.out HN.out.2.2⟩
  · obtain ⟨c0, c1, c2, c3, c4, c5, c6⟩ := rq_cells hr1
    go_wp2_with fail
    clear c0 c1 c2 c3 c4 c5 c6
    (with_reducible refine (HOF.out _).mono ?_)
    rintro e w2 ⟨rfl, hf2⟩
    have hr2 := blk_keep hr1 hf2 (by simp)
    have hz2 := blk_keep HZ1.out hf2 (by simp)
    have hF2 := HF1.out.then hf2
    clear hr1 HZ1 HF1 hf2 HOF
    have hr3 := alloc_keep (o := (.cells #[.bool p0, .bool p1, .bool p2, .bool p3, .bool p4] 39)) hr2
    have hz3 := alloc_keep (o := (.cells #[.bool p0, .bool p1, .bool p2, .bool p3, .bool p4] 39)) hz2
    have hF3 := hF2.alloc (.cells #[.bool p0, .bool p1, .bool p2, .bool p3, .bool p4] 39)
    have HR3 := Lib.hid hr3
    have HZ3 := Lib.hid hz3
    have HF3 := Lib.hid hF3
    clear hr2 hz2 hF2 hr3 hz3 hF3
    obtain ⟨c0, c1, c2, c3, c4, c5, c6⟩ := rq_cells HR3.out
    cases p0
    · obtain ⟨rfl, rfl⟩ : ma' = ma ∧ b1 = true := ⟨(Prod.mk.inj E1.out).1, (Prod.mk.inj E1.out).2⟩
      clear E1 K1
      rcases HC.out with ⟨g1, rfl⟩ | ⟨g1, g2, rfl⟩ | ⟨g1, g2, g3, rfl⟩ | ⟨g1, g2, g3, rfl⟩
      rotate_left 3
      · obtain ⟨rfl, rfl⟩ : ot' = ot ∧ b2 = true := ⟨(Prod.mk.inj E2.out).1, (Prod.mk.inj E2.out).2⟩
        obtain rfl : res = true := HRES.out.symm
        clear HC E2 K2 HRES
        go_wp2_with (refine wpList_store_row rfl 23 _ _ rfl Z #[.int .i64 k, .int .i64 pu, .string so, .string ma', .string ot', .string se, .string pa] rfl rfl 23 _ HZ3.out infoRq rfl (by simp [Value.oneCell']) ?_)
        refine rclean_end (b := Z) rfl rfl (setRow_heap _ _ _ _ _ _ HZ3.out) ⟨rfl, setRow_fr2 _ _ HF3.out HN.out.2.2⟩
      all_goals
        obtain ⟨rfl, rfl⟩ : ot' = t2 ∧ b2 = is2 := ⟨(Prod.mk.inj E2.out).1, (Prod.mk.inj E2.out).2⟩
        have z4 := Lib.frozen_of_heap HR3.out 4
        clear HC E2
        go_wp2_with fail
        (with_reducible refine (K2.out _).mono ?_)
        rintro e w4 ⟨rfl, hf4⟩
        have HR4 := Lib.hid (blk_keep HR3.out hf4 (by simp))
        have HZ4 := Lib.hid (blk_keep HZ3.out hf4 (by simp))
        have HF4 := Lib.hid (HF3.out.then hf4)
        clear HR3 HZ3 HF3 hf4 c0 c1 c2 c3 c4 c5 c6 z4 K2
        cases b2
        · obtain rfl : res = false := HRES.out.symm
          clear HRES
          go_wp2_with (refine wpList_store_row rfl 23 _ _ rfl Z #[.int .i64 0, .int .i64 0, .string ⟨#[]⟩, .string ⟨#[]⟩, .string ⟨#[]⟩, .string ⟨#[]⟩, .string ⟨#[]⟩] rfl rfl 23 _ HZ4.out infoRq rfl (by simp [Value.oneCell']) ?_)
          refine rclean_end (b := Z) rfl rfl (setRow_heap _ _ _ _ _ _ HZ4.out) ⟨rfl, setRow_fr2 _ _ HF4.out HN.out.2.2⟩
        · obtain rfl : res = true := HRES.out.symm
          clear HRES
          obtain ⟨c0, c1, c2, c3, c4, c5, c6⟩ := rq_cells HR4.out
          have z4 := Lib.frozen_of_heap HR4.out 4
          have HZ7 := Lib.hid (blk_oth (j := 4) (v := .string ot') HZ4.out (Ne.symm HN.out.2.1))
          have HF7 := Lib.hid (HF4.out.setCell (p := ⟨R, 4, none⟩) (.inr HN.out.1) (.string ot'))
          go_wp2_with (refine wpList_store_row rfl 23 _ _ rfl Z #[.int .i64 k, .int .i64 pu, .string so, .string ma', .string ot', .string se, .string pa] rfl rfl 23 _ HZ7.out infoRq rfl (by simp [Value.oneCell']) ?_)
          refine rclean_end (b := Z) rfl rfl (setRow_heap _ _ _ _ _ _ HZ7.out) ⟨rfl, setRow_fr2 _ _ HF7.out HN.out.2.2⟩
    · obtain ⟨rfl, rfl⟩ : ma' = t1 ∧ b1 = is1 := ⟨(Prod.mk.inj E1.out).1, (Prod.mk.inj E1.out).2⟩
      clear E1
      go_wp2_with fail
      (with_reducible refine (K1.out _).mono ?_)
      rintro e w4 ⟨rfl, hf4⟩
      have HR4 := Lib.hid (blk_keep HR3.out hf4 (by simp))
      have HZ4 := Lib.hid (blk_keep HZ3.out hf4 (by simp))
      have HF4 := Lib.hid (HF3.out.then hf4)
      clear HR3 HZ3 HF3 hf4 c0 c1 c2 c3 c4 c5 c6 K1
      cases b1
      · obtain rfl : res = false := HRES.out.symm
        clear HRES
        go_wp2_with (refine wpList_store_row rfl 23 _ _ rfl Z #[.int .i64 0, .int .i64 0, .string ⟨#[]⟩, .string ⟨#[]⟩, .string ⟨#[]⟩, .string ⟨#[]⟩, .string ⟨#[]⟩] rfl rfl 23 _ HZ4.out infoRq rfl (by simp [Value.oneCell']) ?_)
        refine rclean_end (b := Z) rfl rfl (setRow_heap _ _ _ _ _ _ HZ4.out) ⟨rfl, setRow_fr2 _ _ HF4.out HN.out.2.2⟩
      · obtain ⟨c0, c1, c2, c3, c4, c5, c6⟩ := rq_cells HR4.out
        have z3 := Lib.frozen_of_heap HR4.out 3
        rcases HC.out with ⟨g1, rfl⟩ | ⟨g1, g2, rfl⟩ | ⟨g1, g2, g3, rfl⟩ | ⟨g1, g2, g3, rfl⟩
        rotate_left 3
        · obtain ⟨rfl, rfl⟩ : ot' = ot ∧ b2 = true := ⟨(Prod.mk.inj E2.out).1, (Prod.mk.inj E2.out).2⟩
          obtain rfl : res = true := HRES.out.symm
          clear HC E2 K2 HRES
          have HZ5 := Lib.hid (blk_oth (j := 3) (v := .string ma') HZ4.out (Ne.symm HN.out.2.1))
          have HF5 := Lib.hid (HF4.out.setCell (p := ⟨R, 3, none⟩) (.inr HN.out.1) (.string ma'))
          go_wp2_with (refine wpList_store_row rfl 23 _ _ rfl Z #[.int .i64 k, .int .i64 pu, .string so, .string ma', .string ot', .string se, .string pa] rfl rfl 23 _ HZ5.out infoRq rfl (by simp [Value.oneCell']) ?_)
          refine rclean_end (b := Z) rfl rfl (setRow_heap _ _ _ _ _ _ HZ5.out) ⟨rfl, setRow_fr2 _ _ HF5.out HN.out.2.2⟩
        all_goals
          obtain ⟨rfl, rfl⟩ : ot' = t2 ∧ b2 = is2 := ⟨(Prod.mk.inj E2.out).1, (Prod.mk.inj E2.out).2⟩
          have HR5 : Hid ((w4.setCell ⟨R, 3, none⟩ (.string ma')).heap[R]? = some (.cells #[.int .i64 k, .int .i64 pu, .string so, .string ma', .string ot, .string se, .string pa] 23 (0, 0))) := Lib.hid (blk_set 3 (.string ma') HR4.out)
          have HZ5 := Lib.hid (blk_oth (j := 3) (v := .string ma') HZ4.out (Ne.symm HN.out.2.1))
          have HF5 := Lib.hid (HF4.out.setCell (p := ⟨R, 3, none⟩) (.inr HN.out.1) (.string ma'))
          clear HC E2
          go_wp2_with fail
          clear c0 c1 c2 c3 c4 c5 c6 z3 HR4 HZ4 HF4
          (with_reducible refine (K2.out _).mono ?_)
          rintro e w6 ⟨rfl, hf6⟩
          have HR4 := Lib.hid (blk_keep HR5.out hf6 (by simp))
          have HZ4 := Lib.hid (blk_keep HZ5.out hf6 (by simp))
          have HF4 := Lib.hid (HF5.out.then hf6)
          clear HR5 HZ5 HF5 hf6 K2
          cases b2
          · obtain rfl : res = false := HRES.out.symm
            clear HRES
            go_wp2_with (refine wpList_store_row rfl 23 _ _ rfl Z #[.int .i64 0, .int .i64 0, .string ⟨#[]⟩, .string ⟨#[]⟩, .string ⟨#[]⟩, .string ⟨#[]⟩, .string ⟨#[]⟩] rfl rfl 23 _ HZ4.out infoRq rfl (by simp [Value.oneCell']) ?_)
            refine rclean_end (b := Z) rfl rfl (setRow_heap _ _ _ _ _ _ HZ4.out) ⟨rfl, setRow_fr2 _ _ HF4.out HN.out.2.2⟩
          · obtain rfl : res = true := HRES.out.symm
            clear HRES
            obtain ⟨c0, c1, c2, c3, c4, c5, c6⟩ := rq_cells HR4.out
            have z4 := Lib.frozen_of_heap HR4.out 4
            have HZ7 := Lib.hid (blk_oth (j := 4) (v := .string ot') HZ4.out (Ne.symm HN.out.2.1))
            have HF7 := Lib.hid (HF4.out.setCell (p := ⟨R, 4, none⟩) (.inr HN.out.1) (.string ot'))
            go_wp2_with (refine wpList_store_row rfl 23 _ _ rfl Z #[.int .i64 k, .int .i64 pu, .string so, .string ma', .string ot', .string se, .string pa] rfl rfl 23 _ HZ7.out infoRq rfl (by simp [Value.oneCell']) ?_)
            refine rclean_end (b := Z) rfl rfl (setRow_heap _ _ _ _ _ _ HZ7.out) ⟨rfl, setRow_fr2 _ _ HF7.out HN.out.2.2⟩
end Go.Proofs.YtbeoegppldjpoaaDoor

/- The contracts of wire.Has, of the document's Bytes and Reply at any request and reply, and of 'has' and 'tells' of the statements of layer 19. -/
namespace Go.Proofs.YtbeoegppldjpoaaDoor
open Go.RowKit
set_option linter.unusedVariables false
set_option linter.unusedSimpArgs false
attribute [local go_sem] mildAt mildUpon

theorem whas_end {R : Ending → World → Prop} {tmps : Array Value} {W : World} {v2 v3 v4 v5 v6 : Value} (h2 : tmps.getD 2 undef = v2) (h3 : tmps.getD 3 undef = v3) (h4 : tmps.getD 4 undef = v4) (h5 : tmps.getD 5 undef = v5) (h6 : tmps.getD 6 undef = v6) (h : R (.returned (.tuple #[v2, v3, v4, v5, v6])) W) :
    bodyPost Tryd.prog Tryd.f29 R Exit.ret { tmps := tmps, defers := [] } W := by
  have hres : Tryd.f29.results = #[.tmp 2, .tmp 3, .tmp 4, .tmp 5, .tmp 6] := by kernel_rfl
  refine bodyPost_ret (v := .tuple #[v2, v3, v4, v5, v6]) ?_ rfl h
  rw [Array.getD_eq_getD_getElem?] at h2 h3 h4 h5 h6
  simp only [results, hres]
  go_simp
set_option maxHeartbeats 2000000 in
set_option maxRecDepth 100000 in
theorem WHas_calls (w : World) (k : Int) :
    Calls Tryd.prog 29 #[.int .i64 k] w fun e w' => e = .returned (.tuple #[.bool (ptOf k).ma, .bool (ptOf k).ot, .bool (ptOf k).se, .bool (ptOf k).pa, .bool (ptOf k).pu]) ∧ Fr [] w w' := by
  have hof := fun W => of_calls W k
  generalize ptOf k = p at *
  generalize kIs k = kb at *
  obtain ⟨p0, p1, p2, p3, p4⟩ := p
  simp only [Pt.val] at hof ⊢
  have HOF := Lib.hid hof
  clear hof
  go_enter Tryd.func29, Tryd.ntmps29
  go_wp2_with fail
  (with_reducible refine (HOF.out _).mono ?_)
  rintro e w1 ⟨rfl, hf1⟩
  have HF1 := Lib.hid hf1
  clear hf1
  go_wp2_with fail
  have hq2 := heap_alloc_new w1 (.cells #[.bool p0, .bool p1, .bool p2, .bool p3, .bool p4] 43)
  have HF2 := Lib.hid (HF1.out.alloc (.cells #[.bool p0, .bool p1, .bool p2, .bool p3, .bool p4] 43))
  generalize w1.alloc (.cells #[.bool p0, .bool p1, .bool p2, .bool p3, .bool p4] 43) = W2 at *
  generalize w1.heap.size = Q at *
  have q0 : W2.cell? ⟨Q, 0, none⟩ = some (.bool p0) := by rw [Lib.cell_of_heap hq2]; rfl
  have q1 : W2.cell? ⟨Q, 1, none⟩ = some (.bool p1) := by rw [Lib.cell_of_heap hq2]; rfl
  have q2 : W2.cell? ⟨Q, 2, none⟩ = some (.bool p2) := by rw [Lib.cell_of_heap hq2]; rfl
  have q3 : W2.cell? ⟨Q, 3, none⟩ = some (.bool p3) := by rw [Lib.cell_of_heap hq2]; rfl
  have q4 : W2.cell? ⟨Q, 4, none⟩ = some (.bool p4) := by rw [Lib.cell_of_heap hq2]; rfl
  clear hq2
  go_quiet (fail)
  go_wp2_with fail
  exact whas_end rfl rfl rfl rfl rfl ⟨rfl, HF2.out.drewN _⟩
set_option maxHeartbeats 2000000 in
set_option maxRecDepth 100000 in
theorem has19_calls (w : World) (k : Int) :
    Calls Tryd.prog 14 #[.int .i64 k] w fun e w' => e = .returned (.bool true) ∧ Fr [] w w' := by
  have h1 := fun W => WHas_calls W k
  have h2 := fun W => Has_calls W k
  unfold HasPost at h2
  generalize ptOf k = p at *
  generalize kIs k = kb at *
  obtain ⟨p0, p1, p2, p3, p4⟩ := p
  simp only [Pt.val] at h1 h2
  have H1 := Lib.hid h1
  have H2 := Lib.hid h2
  clear h1 h2
  go_enter Tryd.func14, Tryd.ntmps14
  go_wp2_with fail
  (with_reducible refine (H1.out _).mono ?_)
  rintro e w1 ⟨rfl, hf1⟩
  have HF1 := Lib.hid hf1
  clear hf1 H1
  go_wp2_with fail
  (with_reducible refine (H2.out _).mono ?_)
  rintro e w2 ⟨rfl, hf2⟩
  have HF2 := Lib.hid (HF1.out.then hf2)
  clear hf2 H2 HF1
  cases p0 <;> cases p1 <;> cases p2 <;> cases p3 <;> cases p4
  all_goals
    go_wp2_with fail
    go_ret
    exact ⟨rfl, HF2.out.alloc _⟩
theorem R19Bytes_any (w : World) (k pu : Int) (so ma ot se pa : ByteArray) (hs : (Rq.mk k pu so ma ot se pa).short 140737488351232) :
    Calls Tryd.prog 23 #[.agg #[.int .i64 k, .int .i64 pu, .string so, .string ma, .string ot, .string se, .string pa]] w fun e w' => e = .returned (.string (wireB ⟨k, pu, so, ma, ot, se, pa⟩)) ∧ Fr [] w w' := by
  by_cases hok : (Rq.mk k pu so ma ot se pa).ok = true
  · have hi := Rq.ok_iff hok
    simp only at hi
    obtain ⟨k, rfl⟩ := Int.eq_ofNat_of_zero_le (show 0 ≤ k by omega)
    obtain ⟨pu, rfl⟩ := Int.eq_ofNat_of_zero_le (show 0 ≤ pu by omega)
    rw [wireB, if_pos hok]
    exact R19Bytes w k pu so ma ot se pa hok
  · rw [wireB, if_neg hok]
    have hck := fun W => R19Check W k pu so ma ot se pa hs
    rw [Bool.not_eq_true] at hok
    rw [hok] at hck
    have HCK := Lib.hid hck
    clear hck hok
    go_enter Tryd.func23, Tryd.ntmps23
    go_wp2_with fail
    have hF0 : Fr [] w (w.alloc (.cells #[.int .i64 k, .int .i64 pu, .string so, .string ma, .string ot, .string se, .string pa] 23)) := (Fr.refl _ _).alloc _
    (with_reducible refine (HCK.out _).mono ?_)
    rintro e w1 ⟨rfl, hf1⟩
    have HF1 := Lib.hid (hF0.then hf1)
    clear hF0 hf1
    go_wp2_with fail
    go_ret
    exact ⟨rfl, HF1.out⟩
set_option maxHeartbeats 2000000 in
set_option maxRecDepth 100000 in
theorem R19Reply_calls (w : World) (c : Int) (t : ByteArray) (hs : t.size ≤ 140737488351232) :
    Calls Tryd.prog 13 #[.agg #[.int .i64 c, .string t]] w fun e w' => e = .returned (.string (replyB c t)) ∧ Fr [] w w' := by
  by_cases h1 : c < 0
  · rw [reply_no (.inl h1)]
    go_enter Tryd.func13, Tryd.ntmps13
    go_wp2_with fail
    go_ret
    exact ⟨rfl, (Fr.refl _ _).alloc _⟩
  · by_cases h2 : 99 < c
    · rw [reply_no (.inr (.inl h2))]
      go_enter Tryd.func13, Tryd.ntmps13
      go_wp2_with fail
      go_ret
      exact ⟨rfl, (Fr.refl _ _).alloc _⟩
    · by_cases h3 : 64 < t.size
      · rw [reply_no (.inr (.inr h3))]
        have h4 : (64 : Int) < (t.size : Int) := by omega
        go_enter Tryd.func13, Tryd.ntmps13
        go_wp2_with fail
        go_ret
        exact ⟨rfl, (Fr.refl _ _).alloc _⟩
      · obtain ⟨c, rfl⟩ := Int.eq_ofNat_of_zero_le (by omega : 0 ≤ c)
        rw [replyB, if_pos (by simp only [Bool.and_eq_true, decide_eq_true_eq]; omega)]
        have n0 := fun W => refNum_calls (c : Int) W (by omega) (by omega)
        rw [Int.toNat_natCast] at n0
        have n1 := fun W => refText_calls t W (by omega)
        have he : numsB [(c : Int)] ++ txtsB [t] = numB c ++ txtB t := by simp only [numsB, txtsB, app_nil, Int.toNat_natCast]
        rw [he]
        have z0 := numB_size c (by omega)
        have z1 := txtB_small (s := t) (by omega)
        generalize numB c = B0 at *
        generalize txtB t = B1 at *
        have g1 : (9223372036854775807 < B0.size + B1.size) = False := eq_false (by omega)
        have wk := u64_wrap_nat (show c < 9223372036854775808 by omega)
        have c3 : ¬ ((64 : Int) < (t.size : Int)) := by omega
        have c2 : ¬ ((99 : Int) < (c : Int)) := by omega
        have c1 : ¬ ((c : Int) < 0) := by omega
        have HN0 := Lib.hid n0
        have HN1 := Lib.hid n1
        clear n0 n1 he z0 z1 h1 h2 h3 hs
        go_enter Tryd.func13, Tryd.ntmps13
        go_wp2_with fail
        have HR1 := Lib.hid (heap_alloc_new w (.cells #[.int .i64 c, .string t] 32))
        have HF1 : Hid (Fr [] w (w.alloc (.cells #[.int .i64 c, .string t] 32))) := Lib.hid ((Fr.refl _ _).alloc _)
        generalize w.alloc (.cells #[.int .i64 c, .string t] 32) = w1 at *
        generalize w.heap.size = R at *
        refine wp_region_mild 9 (by kernel_rfl) (by kernel_rfl) ?_
        simp only [List.take_succ_cons, List.take_zero, List.drop_succ_cons, List.drop_zero, List.take_nil, List.drop_nil]
        repeat (first
          | (apply mild_det0; (· rfl); (· intro W hW K hK; go_simp; with_reducible exact mild_call (HN0.out W) hK); simp only [Act.put, List.setIfInBounds_toArray, List.set_cons_succ, List.set_cons_zero, Nat.reduceAdd])
          | (apply mild_det0; (· rfl); (· intro W hW K hK; go_simp; with_reducible exact mild_call (HN1.out W) hK); simp only [Act.put, List.setIfInBounds_toArray, List.set_cons_succ, List.set_cons_zero, Nat.reduceAdd])
          | ((apply mild_det0; (· rfl); (· intro W hW K hK; have hW' : Fr [] w1 W := ⟨hW.os, hW.tape, hW.output, hW.size, hW.block⟩; obtain ⟨d0, d1⟩ := rp_cells (blk_keep HR1.out hW' (by simp)); go_simp; exact hK _ (Fr.refl _ _))); simp only [Act.put, List.setIfInBounds_toArray, List.set_cons_succ, List.set_cons_zero, Nat.reduceAdd])
          | (apply mild_det0; (· rfl); (· intro W hW K hK; go_simp; exact hK _ (Fr.refl _ _)); simp only [Act.put, List.setIfInBounds_toArray, List.set_cons_succ, List.set_cons_zero, Nat.reduceAdd])
          | (apply mild_slice; (· rfl); (· intro W hW K hK; go_simp; exact hK _ _ ((Fr.refl _ _).alloc _) ⟨_, rfl, heap_alloc_new _ _⟩); simp only [Act.put, List.setIfInBounds_toArray, List.set_cons_succ, List.set_cons_zero, Nat.reduceAdd]))
        refine mild_nil ?_
        intro W2 hW2
        have HF2 := Lib.hid (HF1.out.then (c := W2) ⟨hW2.os, hW2.tape, hW2.output, hW2.size, hW2.block⟩)
        clear hW2
        simp only [subAll]
        (try simp only [Act.put, List.setIfInBounds_toArray, List.set_cons_succ, List.set_cons_zero])
        go_wp2_with fail
        go_ret
        exact ⟨rfl, HF2.out⟩
set_option maxHeartbeats 4000000 in
set_option maxRecDepth 100000 in
theorem tells19_calls (w : World) (hM : ML w) (k pu : Int) (so ma ot se pa : ByteArray) (hs : (Rq.mk k pu so ma ot se pa).short 100000) :
    Calls Tryd.prog 11 #[.agg #[.int .i64 k, .int .i64 pu, .string so, .string ma, .string ot, .string se, .string pa]] w fun e w' => e = .returned (.bool true) ∧ Fr [] w w' := by
  have hs2 : (Rq.mk k pu so ma ot se pa).short 140737488351232 := ⟨Nat.le_trans hs.1 (by decide), Nat.le_trans hs.2.1 (by decide), Nat.le_trans hs.2.2.1 (by decide), Nat.le_trans hs.2.2.2.1 (by decide), Nat.le_trans hs.2.2.2.2 (by decide)⟩
  have k1 := fun W h => Clean_calls W h k pu so ma ot se pa hs
  have k2 := fun W => RClean_calls W k pu so ma ot se pa hs
  have k3 := fun W => Check_calls W k pu so ma ot se pa hs2
  have k4 := fun W => R19Check W k pu so ma ot se pa hs2
  have k5 := fun W => WBytes_calls W k pu so ma ot se pa hs2
  have k6 := fun W => R19Bytes_any W k pu so ma ot se pa hs2
  generalize cleanRq ⟨k, pu, so, ma, ot, se, pa⟩ = x at *
  obtain ⟨⟨xk, xpu, x0, x1, x2, x3, x4⟩, y⟩ := x
  generalize (Rq.mk k pu so ma ot se pa).ok = ok at *
  generalize wireB ⟨k, pu, so, ma, ot, se, pa⟩ = bs at *
  simp only [Rq.val] at k1 k2
  have K1 := Lib.hid k1
  have K2 := Lib.hid k2
  have K3 := Lib.hid k3
  have K4 := Lib.hid k4
  have K5 := Lib.hid k5
  have K6 := Lib.hid k6
  have HM := Lib.hid hM
  clear k1 k2 k3 k4 k5 k6 hs hs2 hM
  go_enter Tryd.func11, Tryd.ntmps11
  go_wp2_with fail
  have hr0 := heap_alloc_new w (.cells #[.int .i64 k, .int .i64 pu, .string so, .string ma, .string ot, .string se, .string pa] 23)
  have hF0 : Fr [] w (w.alloc (.cells #[.int .i64 k, .int .i64 pu, .string so, .string ma, .string ot, .string se, .string pa] 23)) := (Fr.refl _ _).alloc _
  generalize w.alloc (.cells #[.int .i64 k, .int .i64 pu, .string so, .string ma, .string ot, .string se, .string pa] 23) = W0 at *
  generalize w.heap.size = R at *
  (with_reducible refine (K1.out _ (HM.out.keep hF0)).mono ?_)
  rintro e w1 ⟨rfl, hf1⟩
  have hr1 := blk_keep hr0 hf1 (by simp)
  have hF1 := hF0.then hf1
  clear hr0 hF0 hf1 K1 HM
  have d0 := fun o => (rq_cells (alloc_keep (o := o) hr1)).1
  have d1 := fun o => (rq_cells (alloc_keep (o := o) hr1)).2.1
  have d2 := fun o => (rq_cells (alloc_keep (o := o) hr1)).2.2.1
  have d3 := fun o => (rq_cells (alloc_keep (o := o) hr1)).2.2.2.1
  have d4 := fun o => (rq_cells (alloc_keep (o := o) hr1)).2.2.2.2.1
  have d5 := fun o => (rq_cells (alloc_keep (o := o) hr1)).2.2.2.2.2.1
  have d6 := fun o => (rq_cells (alloc_keep (o := o) hr1)).2.2.2.2.2.2
  go_wp2_with fail
  clear d0 d1 d2 d3 d4 d5 d6
  have ha2 := heap_alloc_new w1 (.cells #[.int .i64 xk, .int .i64 xpu, .string x0, .string x1, .string x2, .string x3, .string x4] 23)
  have hr2 := alloc_keep (o := (.cells #[.int .i64 xk, .int .i64 xpu, .string x0, .string x1, .string x2, .string x3, .string x4] 23)) hr1
  have hF2 := hF1.alloc (.cells #[.int .i64 xk, .int .i64 xpu, .string x0, .string x1, .string x2, .string x3, .string x4] 23)
  generalize w1.alloc (.cells #[.int .i64 xk, .int .i64 xpu, .string x0, .string x1, .string x2, .string x3, .string x4] 23) = w2 at *
  generalize w1.heap.size = A at *
  clear hr1 hF1
  (with_reducible refine (K2.out _).mono ?_)
  rintro e w3 ⟨rfl, hf3⟩
  have hr3 := blk_keep hr2 hf3 (by simp)
  have ha3 := blk_keep ha2 hf3 (by simp)
  have hF3 := hF2.then hf3
  clear hr2 ha2 hF2 hf3 K2
  go_upto_region 3 with fail
  have HB4 := Lib.hid (heap_alloc_new w3 (.cells #[.int .i64 xk, .int .i64 xpu, .string x0, .string x1, .string x2, .string x3, .string x4] 23))
  have HR4 := Lib.hid (alloc_keep (o := (.cells #[.int .i64 xk, .int .i64 xpu, .string x0, .string x1, .string x2, .string x3, .string x4] 23)) hr3)
  have HA4 := Lib.hid (alloc_keep (o := (.cells #[.int .i64 xk, .int .i64 xpu, .string x0, .string x1, .string x2, .string x3, .string x4] 23)) ha3)
  have HF4 := Lib.hid (hF3.alloc (.cells #[.int .i64 xk, .int .i64 xpu, .string x0, .string x1, .string x2, .string x3, .string x4] 23))
  generalize w3.alloc (.cells #[.int .i64 xk, .int .i64 xpu, .string x0, .string x1, .string x2, .string x3, .string x4] 23) = w4 at *
  generalize w3.heap.size = B at *
  clear hr3 ha3 hF3
  refine wp_region_mild 23 (by kernel_rfl) (by kernel_rfl) ?_
  simp only [List.take_succ_cons, List.take_zero, List.drop_succ_cons, List.drop_zero, List.take_nil, List.drop_nil]
  repeat (first
    | (apply mild_det0; (· rfl); (· intro W hW K hK; go_simp; with_reducible exact mild_call (K3.out W) hK); simp only [Act.put, List.setIfInBounds_toArray, List.set_cons_succ, List.set_cons_zero, Nat.reduceAdd])
    | (apply mild_det0; (· rfl); (· intro W hW K hK; go_simp; with_reducible exact mild_call (K4.out W) hK); simp only [Act.put, List.setIfInBounds_toArray, List.set_cons_succ, List.set_cons_zero, Nat.reduceAdd])
    | (apply mild_det0; (· rfl); (· intro W hW K hK; go_simp; with_reducible exact mild_call (K5.out W) hK); simp only [Act.put, List.setIfInBounds_toArray, List.set_cons_succ, List.set_cons_zero, Nat.reduceAdd])
    | (apply mild_det0; (· rfl); (· intro W hW K hK; go_simp; with_reducible exact mild_call (K6.out W) hK); simp only [Act.put, List.setIfInBounds_toArray, List.set_cons_succ, List.set_cons_zero, Nat.reduceAdd])
    | ((apply mild_det0; (· rfl); (· intro W hW K hK; have hW' : Fr [] w4 W := ⟨hW.os, hW.tape, hW.output, hW.size, hW.block⟩; obtain ⟨d0, d1, d2, d3, d4, d5, d6⟩ := rq_cells (blk_keep HR4.out hW' (by simp)); obtain ⟨a0, a1, a2, a3, a4, a5, a6⟩ := rq_cells (blk_keep HA4.out hW' (by simp)); obtain ⟨b0, b1, b2, b3, b4, b5, b6⟩ := rq_cells (blk_keep HB4.out hW' (by simp)); go_simp; exact hK _ (Fr.refl _ _))); simp only [Act.put, List.setIfInBounds_toArray, List.set_cons_succ, List.set_cons_zero, Nat.reduceAdd])
    | (apply mild_det0; (· rfl); (· intro W hW K hK; go_simp; exact hK _ (Fr.refl _ _)); simp only [Act.put, List.setIfInBounds_toArray, List.set_cons_succ, List.set_cons_zero, Nat.reduceAdd])
    | (apply mild_slice; (· rfl); (· intro W hW K hK; go_simp; exact hK _ _ ((Fr.refl _ _).alloc _) ⟨_, rfl, heap_alloc_new _ _⟩); simp only [Act.put, List.setIfInBounds_toArray, List.set_cons_succ, List.set_cons_zero, Nat.reduceAdd]))
  refine mild_nil ?_
  intro W2 hW2
  have HF5 := Lib.hid (HF4.out.then (c := W2) ⟨hW2.os, hW2.tape, hW2.output, hW2.size, hW2.block⟩)
  clear hW2
  simp only [subAll]
  (try simp only [Act.put, List.setIfInBounds_toArray, List.set_cons_succ, List.set_cons_zero])
  go_wp2_with fail
  go_ret
  exact ⟨rfl, HF5.out⟩
end Go.Proofs.YtbeoegppldjpoaaDoor

/- The contract of 'made' of the statements of layer 19, at any request of short texts. -/
namespace Go.Proofs.YtbeoegppldjpoaaDoor
open Go.RowKit
set_option linter.unusedVariables false
set_option linter.unusedSimpArgs false

theorem made_calls (w : World) (k pu : Int) (so ma ot se pa : ByteArray) (hs : (Rq.mk k pu so ma ot se pa).short 1000) :
    Calls Tryd.prog 6 #[.agg #[.int .i64 k, .int .i64 pu, .string so, .string ma, .string ot, .string se, .string pa]] w fun e w' => e = .returned (rqMade ⟨k, pu, so, ma, ot, se, pa⟩).val ∧ Fr [] w w' := by
  obtain ⟨n, hn, h1, h2⟩ : ∃ n : Nat, 1 + k % 16 = (n : Int) ∧ 1 ≤ n ∧ n ≤ 16 := ⟨(1 + k % 16).toNat, by omega, by omega, by omega⟩
  revert hn
  match n, h1, h2 with
  | 1, _, _ => exact fun hn => made_0 w k pu so ma ot se pa hs (by rw [hn]; rfl)
  | 2, _, _ => exact fun hn => made_1 w k pu so ma ot se pa hs (by rw [hn]; rfl)
  | 3, _, _ => exact fun hn => made_2 w k pu so ma ot se pa hs (by rw [hn]; rfl)
  | 4, _, _ => exact fun hn => made_1 w k pu so ma ot se pa hs (by rw [hn]; rfl)
  | 5, _, _ => exact fun hn => made_1 w k pu so ma ot se pa hs (by rw [hn]; rfl)
  | 6, _, _ => exact fun hn => made_3 w k pu so ma ot se pa hs (by rw [hn]; rfl)
  | 7, _, _ => exact fun hn => made_0 w k pu so ma ot se pa hs (by rw [hn]; rfl)
  | 8, _, _ => exact fun hn => made_4 w k pu so ma ot se pa hs (by rw [hn]; rfl)
  | 9, _, _ => exact fun hn => made_5 w k pu so ma ot se pa hs (by rw [hn]; rfl)
  | 10, _, _ => exact fun hn => made_6 w k pu so ma ot se pa hs (by rw [hn]; rfl)
  | 11, _, _ => exact fun hn => made_4 w k pu so ma ot se pa hs (by rw [hn]; rfl)
  | 12, _, _ => exact fun hn => made_7 w k pu so ma ot se pa hs (by rw [hn]; rfl)
  | 13, _, _ => exact fun hn => made_5 w k pu so ma ot se pa hs (by rw [hn]; rfl)
  | 14, _, _ => exact fun hn => made_8 w k pu so ma ot se pa hs (by rw [hn]; rfl)
  | 15, _, _ => exact fun hn => made_0 w k pu so ma ot se pa hs (by rw [hn]; rfl)
  | 16, _, _ => exact fun hn => made_8 w k pu so ma ot se pa hs (by rw [hn]; rfl)
  | _ + 17, _, h2 => exact absurd h2 (by omega)
end Go.Proofs.YtbeoegppldjpoaaDoor

/- The example of layer 19. -/
namespace Go.Proofs.YtbeoegppldjpoaaDoor
open Go.RowKit
set_option linter.unusedVariables false
set_option linter.unusedSimpArgs false

theorem awake19_bytes : wireB ⟨12, 0, ⟨#[120]⟩, ⟨#[97, 64, 98, 46, 99, 100]⟩, ⟨#[]⟩, ⟨#[]⟩, ⟨#[]⟩⟩ = ⟨#[12, 0, 1, 120, 6, 97, 64, 98, 46, 99, 100, 0, 0, 0]⟩ := by
  have h0 : numB 0 = ⟨#[0]⟩ := by rw [numB_small (by decide)]; rfl
  have h12 : numB 12 = ⟨#[12]⟩ := by rw [numB_small (by decide)]; rfl
  have h1 : numB 1 = ⟨#[1]⟩ := by rw [numB_small (by decide)]; rfl
  have h6 : numB 6 = ⟨#[6]⟩ := by rw [numB_small (by decide)]; rfl
  rw [wireB, if_pos (by decide)]
  simp only [rqB, numsB, txtsB, txtB]
  rw [show (12 : Int).toNat = 12 from rfl, show (0 : Int).toNat = 0 from rfl, show (⟨#[]⟩ : ByteArray).size = 0 from rfl, show (⟨#[120]⟩ : ByteArray).size = 1 from rfl, show (⟨#[97, 64, 98, 46, 99, 100]⟩ : ByteArray).size = 6 from rfl, h0, h12, h1, h6]
  rfl
set_option maxHeartbeats 2000000 in
set_option maxRecDepth 100000 in
theorem awake19_calls (w : World) :
    Calls Tryd.prog 5 #[] w fun e w' => e = .returned (.bool true) ∧ Fr [] w w' := by
  have h := awake19_bytes
  have hcall := fun W => WBytes_calls W 12 0 ⟨#[120]⟩ ⟨#[97, 64, 98, 46, 99, 100]⟩ ⟨#[]⟩ ⟨#[]⟩ ⟨#[]⟩ ⟨by decide, by decide, by decide, by decide, by decide⟩
  rw [h] at hcall
  have HC := Lib.hid hcall
  clear h hcall
  go_enter Tryd.func5, Tryd.ntmps5
  go_wp2_with fail
  refine (HC.out _).mono ?_
  rintro e w1 ⟨rfl, hf⟩
  go_wp2_with fail
  go_ret
  exact ⟨rfl, hf⟩

end Go.Proofs.YtbeoegppldjpoaaDoor

/- The contract of wire.Read: what is read. -/
namespace Go.Proofs.YtbeoegppldjpoaaDoor
open Go.RowKit
set_option linter.unusedVariables false
set_option linter.unusedSimpArgs false

end Go.Proofs.YtbeoegppldjpoaaDoor

/- A slice of structs of one-cell fields (whole numbers, texts, truth values) that comes in: opened. -/
namespace Go.Proofs.YtbeoegppldjpoaaDoor
open Go.RowKit
set_option linter.unusedVariables false
set_option linter.unusedSimpArgs false

inductive FK where
  | int (k : IntKind)
  | str
  | bool
/-- A field's value. -/
def FK.ok : FK → Value → Prop
  | .int k, v => ∃ n, v = .int k n ∧ Bd k n
  | .str, v => ∃ s : ByteArray, v = .string s ∧ s.size ≤ maxLen
  | .bool, v => ∃ b, v = .bool b
/-- A struct's cells. -/
def FRow : List FK → List Value → Prop
  | [], [] => True
  | k :: ks, v :: vs => k.ok v ∧ FRow ks vs
  | _, _ => False
theorem FRow.of : ∀ (ks : List FK) (vs : List Value), vs.length = ks.length → (∀ (i : Nat) (k : FK) (v : Value), ks[i]? = some k → vs[i]? = some v → k.ok v) → FRow ks vs := by
  intro ks
  induction ks with
  | nil => intro vs h _; cases vs with
    | nil => trivial
    | cons v vs => simp at h
  | cons k ks ih => intro vs h hi; cases vs with
    | nil => simp at h
    | cons v vs => exact ⟨hi 0 k v rfl rfl, ih vs (by simpa using h) (fun i k' v' h1 h2 => hi (i + 1) k' v' (by simpa using h1) (by simpa using h2))⟩
theorem FRow.length : ∀ (ks : List FK) (vs : List Value), FRow ks vs → vs.length = ks.length := by
  intro ks
  induction ks with
  | nil => intro vs h; cases vs with
    | nil => rfl
    | cons v vs => exact h.elim
  | cons k ks ih => intro vs h; cases vs with
    | nil => exact h.elim
    | cons v vs => simp [ih vs h.2]
/-- The rows' cells lie at address A, sz cells each. -/
def RdR (w : World) (A : Option Addr) (sz : Nat) (l : List (List Value)) : Prop := ∀ (i : Nat) (row : List Value), l[i]? = some row → ∀ (j : Nat) (v : Value), row[j]? = some v → ∃ ad, A = some ad ∧ w.cell? (ad.add (i * sz + j)) = some v
theorem RdR.nil (w : World) (A : Option Addr) (sz : Nat) : RdR w A sz [] := fun i row h => by simp at h

def fkB : Option TypeDesc → FK → Bool
  | some (.int q), .int k => decide (q = k)
  | some .string, .str => true
  | some .bool, .bool => true
  | _, _ => false
theorem fkB_int {d : Option TypeDesc} {k : IntKind} (h : fkB d (.int k) = true) : d = some (.int k) := by
  cases d with
  | none => simp [fkB] at h
  | some d => cases d <;> simp_all [fkB]
theorem fkB_str {d : Option TypeDesc} (h : fkB d .str = true) : d = some .string := by
  cases d with
  | none => simp [fkB] at h
  | some d => cases d <;> simp_all [fkB]
theorem fkB_bool {d : Option TypeDesc} (h : fkB d .bool = true) : d = some .bool := by
  cases d with
  | none => simp [fkB] at h
  | some d => cases d <;> simp_all [fkB]
def flatB (P : Program) (fs : Array Field) (ks : List FK) : Bool :=
  fs.size == ks.length && (List.range fs.size).all fun i => match fs[i]?, ks[i]? with
    | some f, some k => f.offset == i && P.cellsOf f.type == 1 && fkB (P.underlying f.type) k
    | _, _ => false

section
variable {H : Type} {enc : TypeId × Value → H} {P : Program} {w : World} {base : Nat} {sp : Nat → Bool} {held : Bool}
theorem flat_row {e : TypeId} {fs : Array Field} {ks : List FK} (he : P.underlying e = some (.struct fs)) (hfl : flatB P fs ks = true) (hce : P.cellsOf e = ks.length) {n : Nat} {cs : List Value} {y : DataW H × List MemPlace} (h : DataW.trod enc P w base sp held n e cs = some y) : FRow ks cs := by
  obtain ⟨xs, m, rfl, rfl, hl, hxs, hel⟩ := DataW.trod_struct he h
  simp only [flatB, Bool.and_eq_true, beq_iff_eq, List.all_eq_true, List.mem_range] at hfl
  obtain ⟨hs, hfl⟩ := hfl
  refine FRow.of ks cs (by omega) fun i k v hk hv => ?_
  have hi : i < ks.length := (List.getElem?_eq_some_iff.1 hk).1
  have hic : i < cs.length := (List.getElem?_eq_some_iff.1 hv).1
  have h1 := hfl i (by omega)
  have hf : fs[i]? = some fs[i] := Array.getElem?_eq_getElem (by omega)
  rw [hf, hk] at h1
  simp only [Bool.and_eq_true, beq_iff_eq] at h1
  obtain ⟨⟨ho, hc1⟩, hd⟩ := h1
  have h2 := hel i _ hf
  rw [ho, hc1, List.drop_eq_getElem_cons hic, List.take_succ_cons, List.take_zero, List.getElem?_eq_getElem (by omega)] at h2
  have hvv : cs[i] = v := by
    have := (List.getElem?_eq_some_iff.1 hv).2
    exact this
  rw [hvv] at h2
  cases k with
  | int q =>
    obtain ⟨z, hz, _, hw⟩ := DataW.trod_int (fkB_int hd) h2
    simp at hz
    exact ⟨z, hz, wf_bd hw⟩
  | str =>
    obtain ⟨z, hz, _, hw⟩ := DataW.trod_string (fkB_str hd) h2
    simp at hz
    exact ⟨z, hz, hw⟩
  | bool =>
    obtain ⟨z, hz, _⟩ := DataW.trod_bool (fkB_bool hd) h2
    simp at hz
    exact ⟨z, hz⟩
theorem open_flat {t e : TypeId} {fs : Array Field} {ks : List FK} (ht : P.underlying t = some (.slice e)) (he : P.underlying e = some (.struct fs)) (hfl : flatB P fs ks = true) (hce : P.cellsOf e = ks.length) {fuel : Nat} {cs : List Value} {x : DataW H × List MemPlace} (h : DataW.trod enc P w base sp held fuel t cs = some x) :
    cs = [.slice none 0 0] ∨ ∃ (a : Addr) (len cap : Nat) (l : List (List Value)), cs = [.slice (some a) len cap] ∧ len ≤ cap ∧ cap ≤ maxLen ∧ l.length = len ∧ (∀ row, row ∈ l → FRow ks row) ∧ RdR w (some a) ks.length l := by
  rcases DataW.trod_slice ht h with h0 | ⟨a, len, cap, elems, rest, n, _, rfl, rfl, hb, hl, hm, hlen, hel, hsp, hns⟩
  · exact Or.inl h0.1
  right
  have each : ∀ i, i < len → ∃ row, FRow ks row ∧ ∀ j v, row[j]? = some v → w.cell? (a.add (i * ks.length + j)) = some v := by
    intro i hi
    have h1 := hel i hi
    rw [List.getElem?_eq_getElem (by omega), Option.bind_eq_some_iff] at h1
    obtain ⟨row, hrow, htr⟩ := h1
    rw [hce] at hrow
    refine ⟨row, flat_row he hfl hce htr, fun j v hv => ?_⟩
    obtain ⟨_, hlr, h2⟩ := World.cells?_some hrow
    have hj : j < row.length := (List.getElem?_eq_some_iff.1 hv).1
    have h3 := h2 j (by omega)
    rw [Addr.add_add] at h3
    rw [h3, hv]
  have hf : ∀ i, ∃ row, i < len → FRow ks row ∧ ∀ j v, row[j]? = some v → w.cell? (a.add (i * ks.length + j)) = some v := by
    intro i
    by_cases h : i < len
    · obtain ⟨row, hr⟩ := each i h
      exact ⟨row, fun _ => hr⟩
    · exact ⟨[], fun h' => absurd h' h⟩
  obtain ⟨f, hf⟩ := Classical.axiomOfChoice hf
  refine ⟨a, len, cap, (List.range len).map f, rfl, hl, hm, by simp, ?_, ?_⟩
  · intro row hrow
    obtain ⟨i, hi, rfl⟩ := List.mem_map.1 hrow
    exact (hf i (List.mem_range.1 hi)).1
  · intro i row hrow j v hv
    rw [List.getElem?_map] at hrow
    obtain ⟨i', hi', rfl⟩ := Option.map_eq_some_iff.1 hrow
    obtain ⟨hil, hie⟩ := List.getElem?_eq_some_iff.1 hi'
    rw [List.getElem_range] at hie
    subst hie
    rw [List.length_range] at hil
    exact ⟨a, rfl, (hf i hil).2 j v hv⟩
end

end Go.Proofs.YtbeoegppldjpoaaDoor

/- A request and a reply that come in. -/
namespace Go.Proofs.YtbeoegppldjpoaaDoor
open Go.RowKit
set_option linter.unusedVariables false
set_option linter.unusedSimpArgs false

theorem rq_of_row {row : List Value} (h : FRow [.int .i64, .int .i64, .str, .str, .str, .str, .str] row) : ∃ (k pu : Int) (so ma ot se pa : ByteArray), row = [.int .i64 k, .int .i64 pu, .string so, .string ma, .string ot, .string se, .string pa] ∧ (Rq.mk k pu so ma ot se pa).short 9223372036854775807 ∧ Bd .i64 k ∧ Bd .i64 pu := by
  rcases row with _ | ⟨v0, _ | ⟨v1, _ | ⟨v2, _ | ⟨v3, _ | ⟨v4, _ | ⟨v5, _ | ⟨v6, _ | ⟨v7, row⟩⟩⟩⟩⟩⟩⟩⟩
  · exact h.elim
  · exact h.2.elim
  · exact h.2.2.elim
  · exact h.2.2.2.elim
  · exact h.2.2.2.2.elim
  · exact h.2.2.2.2.2.elim
  · exact h.2.2.2.2.2.2.elim
  · obtain ⟨⟨k, rfl, hk⟩, ⟨pu, rfl, hp⟩, ⟨s0, rfl, z0⟩, ⟨s1, rfl, z1⟩, ⟨s2, rfl, z2⟩, ⟨s3, rfl, z3⟩, ⟨s4, rfl, z4⟩, _⟩ := h
    exact ⟨k, pu, s0, s1, s2, s3, s4, rfl, ⟨z0, z1, z2, z3, z4⟩, hk, hp⟩
  · exact h.2.2.2.2.2.2.2.elim
theorem rp_of_row {row : List Value} (h : FRow [.int .i64, .str] row) : ∃ (c : Int) (t : ByteArray), row = [.int .i64 c, .string t] ∧ t.size ≤ 9223372036854775807 ∧ Bd .i64 c := by
  rcases row with _ | ⟨v0, _ | ⟨v1, _ | ⟨v2, row⟩⟩⟩
  · exact h.elim
  · exact h.2.elim
  · obtain ⟨⟨c, rfl, hc⟩, ⟨t, rfl, ht⟩, _⟩ := h
    exact ⟨c, t, rfl, ht, hc⟩
  · exact h.2.2.elim

end Go.Proofs.YtbeoegppldjpoaaDoor

/- The law WireFits: for any request and reply the Go function returns true (its walk). -/
namespace Go.Proofs.YtbeoegppldjpoaaDoor
open Go.RowKit
set_option linter.unusedVariables false
set_option linter.unusedSimpArgs false

theorem i64_and63 (n : Int) : bits .and .i64 n 63 = n % 64 := by
  have h127 : (BitVec.ofInt 64 63).toNat = 2 ^ 6 - 1 := by decide
  have key : (BitVec.ofInt 64 n &&& BitVec.ofInt 64 63).toNat = (n % ((2 ^ 64 : Nat) : Int)).toNat % 2 ^ 6 := by
    rw [BitVec.toNat_and, BitVec.toNat_ofInt, h127, Nat.and_two_pow_sub_one_eq_mod]
  show IntKind.i64.wrap ((BitVec.ofInt 64 n &&& BitVec.ofInt 64 63).toNat : Nat) = n % 64
  rw [key, IntKind.wrap_i64]
  omega
theorem rqLess_short (r : Rq) : (rqLess r).short 1000 := ⟨Nat.le_trans (shortB_size _ _) (by decide), Nat.le_trans (shortB_size _ _) (by decide), Nat.le_trans (shortB_size _ _) (by decide), Nat.le_trans (shortB_size _ _) (by decide), Nat.le_trans (shortB_size _ _) (by decide)⟩
/-- The request that the statements make of any: less, then made. -/
theorem xmade_calls (k pu : Int) (so ma ot se pa : ByteArray) (hs : (Rq.mk k pu so ma ot se pa).short 9223372036854775807) :
    ∃ (xk xpu : Nat) (y0 y1 y2 y3 y4 : ByteArray) (l0 l1 l2 l3 l4 : ByteArray) (lk lpu : Int), (Rq.mk xk xpu y0 y1 y2 y3 y4).ok = true ∧ rqMade (rqLess ⟨k, pu, so, ma, ot, se, pa⟩) = ⟨xk, xpu, y0, y1, y2, y3, y4⟩ ∧
      (∀ W, Calls Tryd.prog 7 #[.agg #[.int .i64 k, .int .i64 pu, .string so, .string ma, .string ot, .string se, .string pa]] W fun e w' => e = .returned (.agg #[.int .i64 lk, .int .i64 lpu, .string l0, .string l1, .string l2, .string l3, .string l4]) ∧ Fr [] W w') ∧
      (∀ W, Calls Tryd.prog 6 #[.agg #[.int .i64 lk, .int .i64 lpu, .string l0, .string l1, .string l2, .string l3, .string l4]] W fun e w' => e = .returned (.agg #[.int .i64 xk, .int .i64 xpu, .string y0, .string y1, .string y2, .string y3, .string y4]) ∧ Fr [] W w') := by
  have h1 := fun W => less_calls W k pu so ma ot se pa hs
  have h2 := rqLess_short ⟨k, pu, so, ma, ot, se, pa⟩
  generalize rqLess ⟨k, pu, so, ma, ot, se, pa⟩ = l at *
  obtain ⟨lk, lpu, l0, l1, l2, l3, l4⟩ := l
  have h3 := fun W => made_calls W lk lpu l0 l1 l2 l3 l4 h2
  have hok := rqMade_ok ⟨lk, lpu, l0, l1, l2, l3, l4⟩
  generalize rqMade ⟨lk, lpu, l0, l1, l2, l3, l4⟩ = x at *
  obtain ⟨xk, xpu, y0, y1, y2, y3, y4⟩ := x
  have hi := Rq.ok_iff hok
  simp only at hi
  obtain ⟨xk, rfl⟩ := Int.eq_ofNat_of_zero_le (show 0 ≤ xk by omega)
  obtain ⟨xpu, rfl⟩ := Int.eq_ofNat_of_zero_le (show 0 ≤ xpu by omega)
  exact ⟨xk, xpu, y0, y1, y2, y3, y4, l0, l1, l2, l3, l4, lk, lpu, hok, rfl, h1, h3⟩

end Go.Proofs.YtbeoegppldjpoaaDoor

/- Masks of whole numbers: n & 31, & 63, & 7, & (1 << 40 - 1). -/
namespace Go.Proofs.YtbeoegppldjpoaaDoor
open Go.RowKit
set_option linter.unusedVariables false
set_option linter.unusedSimpArgs false

theorem i64_and3 (n : Int) : bits .and .i64 n 3 = n % 4 := by
  have h127 : (BitVec.ofInt 64 3).toNat = 2 ^ 2 - 1 := by decide
  have key : (BitVec.ofInt 64 n &&& BitVec.ofInt 64 3).toNat = (n % ((2 ^ 64 : Nat) : Int)).toNat % 2 ^ 2 := by
    rw [BitVec.toNat_and, BitVec.toNat_ofInt, h127, Nat.and_two_pow_sub_one_eq_mod]
  show IntKind.i64.wrap ((BitVec.ofInt 64 n &&& BitVec.ofInt 64 3).toNat : Nat) = n % 4
  rw [key, IntKind.wrap_i64]
  omega
theorem i64_and7 (n : Int) : bits .and .i64 n 7 = n % 8 := by
  have h127 : (BitVec.ofInt 64 7).toNat = 2 ^ 3 - 1 := by decide
  have key : (BitVec.ofInt 64 n &&& BitVec.ofInt 64 7).toNat = (n % ((2 ^ 64 : Nat) : Int)).toNat % 2 ^ 3 := by
    rw [BitVec.toNat_and, BitVec.toNat_ofInt, h127, Nat.and_two_pow_sub_one_eq_mod]
  show IntKind.i64.wrap ((BitVec.ofInt 64 n &&& BitVec.ofInt 64 7).toNat : Nat) = n % 8
  rw [key, IntKind.wrap_i64]
  omega
theorem i64_and15 (n : Int) : bits .and .i64 n 15 = n % 16 := by
  have h127 : (BitVec.ofInt 64 15).toNat = 2 ^ 4 - 1 := by decide
  have key : (BitVec.ofInt 64 n &&& BitVec.ofInt 64 15).toNat = (n % ((2 ^ 64 : Nat) : Int)).toNat % 2 ^ 4 := by
    rw [BitVec.toNat_and, BitVec.toNat_ofInt, h127, Nat.and_two_pow_sub_one_eq_mod]
  show IntKind.i64.wrap ((BitVec.ofInt 64 n &&& BitVec.ofInt 64 15).toNat : Nat) = n % 16
  rw [key, IntKind.wrap_i64]
  omega
theorem i64_and31 (n : Int) : bits .and .i64 n 31 = n % 32 := by
  have h127 : (BitVec.ofInt 64 31).toNat = 2 ^ 5 - 1 := by decide
  have key : (BitVec.ofInt 64 n &&& BitVec.ofInt 64 31).toNat = (n % ((2 ^ 64 : Nat) : Int)).toNat % 2 ^ 5 := by
    rw [BitVec.toNat_and, BitVec.toNat_ofInt, h127, Nat.and_two_pow_sub_one_eq_mod]
  show IntKind.i64.wrap ((BitVec.ofInt 64 n &&& BitVec.ofInt 64 31).toNat : Nat) = n % 32
  rw [key, IntKind.wrap_i64]
  omega
theorem i64_and4095 (n : Int) : bits .and .i64 n 4095 = n % 4096 := by
  have h127 : (BitVec.ofInt 64 4095).toNat = 2 ^ 12 - 1 := by decide
  have key : (BitVec.ofInt 64 n &&& BitVec.ofInt 64 4095).toNat = (n % ((2 ^ 64 : Nat) : Int)).toNat % 2 ^ 12 := by
    rw [BitVec.toNat_and, BitVec.toNat_ofInt, h127, Nat.and_two_pow_sub_one_eq_mod]
  show IntKind.i64.wrap ((BitVec.ofInt 64 n &&& BitVec.ofInt 64 4095).toNat : Nat) = n % 4096
  rw [key, IntKind.wrap_i64]
  omega
theorem i64_and1099511627775 (n : Int) : bits .and .i64 n 1099511627775 = n % 1099511627776 := by
  have h127 : (BitVec.ofInt 64 1099511627775).toNat = 2 ^ 40 - 1 := by decide
  have key : (BitVec.ofInt 64 n &&& BitVec.ofInt 64 1099511627775).toNat = (n % ((2 ^ 64 : Nat) : Int)).toNat % 2 ^ 40 := by
    rw [BitVec.toNat_and, BitVec.toNat_ofInt, h127, Nat.and_two_pow_sub_one_eq_mod]
  show IntKind.i64.wrap ((BitVec.ofInt 64 n &&& BitVec.ofInt 64 1099511627775).toNat : Nat) = n % 1099511627776
  rw [key, IntKind.wrap_i64]
  omega
end Go.Proofs.YtbeoegppldjpoaaDoor

/- The law WireTells: for any request, reply and kind the Go function returns true (its walk). -/
namespace Go.Proofs.YtbeoegppldjpoaaDoor
open Go.RowKit
set_option linter.unusedVariables false
set_option linter.unusedSimpArgs false
attribute [local go_sem] mildAt mildUpon

set_option maxHeartbeats 4000000 in
set_option maxRecDepth 100000 in
theorem WireTells_core (w : World) (hM : ML w) (k pu : Int) (so ma ot se pa : ByteArray) (hs : (Rq.mk k pu so ma ot se pa).short 9223372036854775807) (c : Int) (t : ByteArray) (ht : t.size ≤ 9223372036854775807) (kd : Int) :
    Calls Tryd.prog 4 #[.agg #[.int .i64 k, .int .i64 pu, .string so, .string ma, .string ot, .string se, .string pa], .agg #[.int .i64 c, .string t], .int .i64 kd] w fun e w' => e = .returned (.bool true) ∧ Fr [] w w' := by
  have h1 := fun W => less_calls W k pu so ma ot se pa hs
  have h2 := rqLess_short ⟨k, pu, so, ma, ot, se, pa⟩
  generalize rqLess ⟨k, pu, so, ma, ot, se, pa⟩ = l at *
  obtain ⟨lk, lpu, l0, l1, l2, l3, l4⟩ := l
  have h3 := fun W => made_calls W lk lpu l0 l1 l2 l3 l4 h2
  have hok := rqMade_ok ⟨lk, lpu, l0, l1, l2, l3, l4⟩
  generalize rqMade ⟨lk, lpu, l0, l1, l2, l3, l4⟩ = x at *
  obtain ⟨xk, xpu, y0, y1, y2, y3, y4⟩ := x
  have hi := Rq.ok_iff hok
  simp only at hi
  have h4 := fun W h => tells19_calls W h lk lpu l0 l1 l2 l3 l4 ⟨Nat.le_trans h2.1 (by decide), Nat.le_trans h2.2.1 (by decide), Nat.le_trans h2.2.2.1 (by decide), Nat.le_trans h2.2.2.2.1 (by decide), Nat.le_trans h2.2.2.2.2 (by decide)⟩
  have h5 := fun W h => tells19_calls W h xk xpu y0 y1 y2 y3 y4 ⟨by show y0.size ≤ _; omega, by show y1.size ≤ _; omega, by show y2.size ≤ _; omega, by show y3.size ≤ _; omega, by show y4.size ≤ _; omega⟩
  have hsh := fun W => short19_calls t 66 66 rfl W ht (by decide)
  have h64 := shortB_size t 66
  generalize shortB t 66 = z at *
  have h6 := fun W => WReply_calls W c z (by omega)
  have h7 := fun W => R19Reply_calls W c z (by omega)
  have h8 := fun W => has19_calls W kd
  have h9 := fun W => has19_calls W (kd % 32)
  have hkd := i64_and31 kd
  generalize kd % 32 = km at *
  simp only [Rq.val] at h1 h3
  generalize replyB c z = rb at *
  have H1 := Lib.hid h1
  have H3 := Lib.hid h3
  have H4 := Lib.hid h4
  have H5 := Lib.hid h5
  have H6 := Lib.hid h6
  have H7 := Lib.hid h7
  have H8 := Lib.hid h8
  have H9 := Lib.hid h9
  have HSH := Lib.hid hsh
  have HM := Lib.hid hM
  clear h1 h2 h3 h4 h5 h6 h7 h8 h9 hsh h64 hok hi hs ht hM
  go_enter Tryd.func4, Tryd.ntmps4
  go_wp2_with fail
  have hr0 := alloc_keep (o := .cells #[.int .i64 c, .string t] 32) (heap_alloc_new w (.cells #[.int .i64 k, .int .i64 pu, .string so, .string ma, .string ot, .string se, .string pa] 23))
  have hy0 := heap_alloc_new (w.alloc (.cells #[.int .i64 k, .int .i64 pu, .string so, .string ma, .string ot, .string se, .string pa] 23)) (.cells #[.int .i64 c, .string t] 32)
  have hF0 : Fr [] w ((w.alloc (.cells #[.int .i64 k, .int .i64 pu, .string so, .string ma, .string ot, .string se, .string pa] 23)).alloc (.cells #[.int .i64 c, .string t] 32)) := ((Fr.refl _ _).alloc _).alloc _
  have hsz : (w.alloc (.cells #[.int .i64 k, .int .i64 pu, .string so, .string ma, .string ot, .string se, .string pa] 23)).heap.size = w.heap.size + 1 := by simp
  rw [hsz] at hy0
  generalize (w.alloc (.cells #[.int .i64 k, .int .i64 pu, .string so, .string ma, .string ot, .string se, .string pa] 23)).alloc (.cells #[.int .i64 c, .string t] 32) = W0 at *
  clear hsz
  obtain ⟨Y, hY⟩ : ∃ Y, w.heap.size + 1 = Y := ⟨_, rfl⟩
  obtain ⟨R, hR⟩ : ∃ R, w.heap.size = R := ⟨_, rfl⟩
  rw [hY] at hy0
  rw [hR] at hr0
  have HN := Lib.hid (show w.heap.size ≤ Y ∧ R ≠ Y from by omega)
  rw [hY]
  rw [hR]
  clear hY hR
  (with_reducible refine (awake19_calls _).mono ?_)
  rintro e w1 ⟨rfl, hf1⟩
  have hr1 := blk_keep hr0 hf1 (by simp)
  have hy1 := blk_keep hy0 hf1 (by simp)
  have hF1 := hF0.then hf1
  clear hr0 hy0 hF0 hf1
  obtain ⟨c0, c1⟩ := rp_cells hy1
  go_wp2_with fail
  (with_reducible refine (HSH.out _).mono ?_)
  rintro e w2 ⟨rfl, rfl⟩
  have z1 := Lib.frozen_of_heap hy1 1
  go_wp2_with fail
  have HY3 : Hid ((w1.setCell ⟨Y, 1, none⟩ (.string z)).heap[Y]? = some (.cells #[.int .i64 c, .string z] 32 (0, 0))) := Lib.hid (blk_set 1 (.string z) hy1)
  have HR3 := Lib.hid (blk_oth (j := 1) (v := .string z) hr1 HN.out.2)
  have HF3 := Lib.hid (hF1.setCell (p := ⟨Y, 1, none⟩) (.inr HN.out.1) (.string z))
  clear hy1 hr1 hF1 c0 c1 z1 HSH
  generalize w1.setCell ⟨Y, 1, none⟩ (.string z) = w3 at *
  refine wp_region_mild 29 (by kernel_rfl) (by kernel_rfl) ?_
  simp only [List.take_succ_cons, List.take_zero, List.drop_succ_cons, List.drop_zero, List.take_nil, List.drop_nil]
  repeat (first
    | (apply mild_det0; (· rfl); (· intro W hW K hK; go_simp; with_reducible exact mild_call (H1.out W) hK); simp only [Act.put, List.setIfInBounds_toArray, List.set_cons_succ, List.set_cons_zero, Nat.reduceAdd])
    | (apply mild_det0; (· rfl); (· intro W hW K hK; go_simp; with_reducible exact mild_call (H3.out W) hK); simp only [Act.put, List.setIfInBounds_toArray, List.set_cons_succ, List.set_cons_zero, Nat.reduceAdd])
    | ((apply mild_det0; (· rfl); (· intro W hW K hK; have hW' : Fr [] w3 W := ⟨hW.os, hW.tape, hW.output, hW.size, hW.block⟩; have hml := HM.out.keep (HF3.out.then hW'); go_simp; with_reducible exact mild_call (H4.out W hml) hK)); simp only [Act.put, List.setIfInBounds_toArray, List.set_cons_succ, List.set_cons_zero, Nat.reduceAdd])
    | ((apply mild_det0; (· rfl); (· intro W hW K hK; have hW' : Fr [] w3 W := ⟨hW.os, hW.tape, hW.output, hW.size, hW.block⟩; have hml := HM.out.keep (HF3.out.then hW'); go_simp; with_reducible exact mild_call (H5.out W hml) hK)); simp only [Act.put, List.setIfInBounds_toArray, List.set_cons_succ, List.set_cons_zero, Nat.reduceAdd])
    | (apply mild_det0; (· rfl); (· intro W hW K hK; go_simp; with_reducible exact mild_call (H6.out W) hK); simp only [Act.put, List.setIfInBounds_toArray, List.set_cons_succ, List.set_cons_zero, Nat.reduceAdd])
    | (apply mild_det0; (· rfl); (· intro W hW K hK; go_simp; with_reducible exact mild_call (H7.out W) hK); simp only [Act.put, List.setIfInBounds_toArray, List.set_cons_succ, List.set_cons_zero, Nat.reduceAdd])
    | (apply mild_det0; (· rfl); (· intro W hW K hK; go_simp; with_reducible exact mild_call (H8.out W) hK); simp only [Act.put, List.setIfInBounds_toArray, List.set_cons_succ, List.set_cons_zero, Nat.reduceAdd])
    | (apply mild_det0; (· rfl); (· intro W hW K hK; go_simp; with_reducible exact mild_call (H9.out W) hK); simp only [Act.put, List.setIfInBounds_toArray, List.set_cons_succ, List.set_cons_zero, Nat.reduceAdd])
    | ((apply mild_det0; (· rfl); (· intro W hW K hK; have hW' : Fr [] w3 W := ⟨hW.os, hW.tape, hW.output, hW.size, hW.block⟩; obtain ⟨d0, d1, d2, d3, d4, d5, d6⟩ := rq_cells (blk_keep HR3.out hW' (by simp)); obtain ⟨a0, a1⟩ := rp_cells (blk_keep HY3.out hW' (by simp)); go_simp; exact hK _ (Fr.refl _ _))); simp only [Act.put, List.setIfInBounds_toArray, List.set_cons_succ, List.set_cons_zero, Nat.reduceAdd])
    | (apply mild_det0; (· rfl); (· intro W hW K hK; go_simp; exact hK _ (Fr.refl _ _)); simp only [Act.put, List.setIfInBounds_toArray, List.set_cons_succ, List.set_cons_zero, Nat.reduceAdd])
    | (apply mild_slice; (· rfl); (· intro W hW K hK; go_simp; exact hK _ _ ((Fr.refl _ _).alloc _) ⟨_, rfl, heap_alloc_new _ _⟩); simp only [Act.put, List.setIfInBounds_toArray, List.set_cons_succ, List.set_cons_zero, Nat.reduceAdd]))
  refine mild_nil ?_
  intro W2 hW2
  have HF5 := Lib.hid (HF3.out.then (c := W2) ⟨hW2.os, hW2.tape, hW2.output, hW2.size, hW2.block⟩)
  clear hW2
  simp only [subAll]
  (try simp only [Act.put, List.setIfInBounds_toArray, List.set_cons_succ, List.set_cons_zero])
  go_wp2_with fail
  go_ret
  exact ⟨rfl, HF5.out⟩
theorem WireTells_walk (w : World) (hM : ML w) (l : List Value) (hl : FRow [.int .i64, .int .i64, .str, .str, .str, .str, .str] l) (m : List Value) (hm : FRow [.int .i64, .str] m) (kd : Int) (hkd : Bd .i64 kd) :
    Calls Tryd.prog 4 #[.agg l.toArray, .agg m.toArray, .int .i64 kd] w fun e w' => e = .returned (.bool true) ∧ Fr [] w w' := by
  obtain ⟨k, pu, s0, s1, s2, s3, s4, rfl, hs, -, -⟩ := rq_of_row hl
  obtain ⟨c, t, rfl, ht, -⟩ := rp_of_row hm
  exact WireTells_core w hM k pu s0 s1 s2 s3 s4 hs c t ht kd
end Go.Proofs.YtbeoegppldjpoaaDoor

/- A struct of one-cell fields (whole numbers, texts, truth values) that comes in by value: opened. -/
namespace Go.Proofs.YtbeoegppldjpoaaDoor
open Go.RowKit
set_option linter.unusedVariables false
set_option linter.unusedSimpArgs false

section
variable {H : Type} {enc : TypeId × Value → H} {P : Program} {w : World} {base : Nat} {sp : Nat → Bool} {held : Bool}
theorem okWide_struct {r : Reach} {b0 : Nat} {t : TypeId} {fs : Array Field} {v : Value} (ht : P.underlying t = some (.struct fs)) (h : Value.okWide P w r b0 t v) : ∃ cs, v = .agg cs ∧ cs.size = P.cellsOf t := by
  simp only [Value.okWide, ht] at h
  obtain ⟨cs, h1, h2, _⟩ := h
  exact ⟨cs, h1, h2⟩
theorem open_row {ks : List FK} {r : Reach} {b0 : Nat} {t : TypeId} {fs : Array Field} {v : Value} {d : DataW H} {ps : List MemPlace} (ht : P.underlying t = some (.struct fs)) (hfl : flatB P fs ks = true) (hce : P.cellsOf t = ks.length)
    (hval : Value.okWide P w r b0 t v) (h : DataW.Trod enc P w base sp held t v d ps) : ∃ l : List Value, v = .agg l.toArray ∧ FRow ks l := by
  obtain ⟨cs, rfl, hsz⟩ := okWide_struct ht hval
  obtain ⟨fuel, hf⟩ := h
  refine ⟨cs.toList, by simp, ?_⟩
  have h2 : FRow ks (Value.agg cs).cells.toList := flat_row ht hfl hce hf
  exact h2
end

end Go.Proofs.YtbeoegppldjpoaaDoor

/- From the walk to the form of a card, the world's shape kept beside what is laid (as Derived/HandedShaped.lean and Derived/Handed.lean have each alone); bytealg's variable out of the shape. -/
namespace Go.Proofs.YtbeoegppldjpoaaDoor
open Go.RowKit
set_option linter.unusedVariables false
variable {H : Type} {enc : TypeId × Value → H}
theorem handed_laid_shaped {a : Assume} {C : Checked} {os : Os} {f : FuncId} {fn : Func} {s : ChangeSpec} {conds : List PathCond} {apart fresh handsOn again : Bool} {X : World → Array Value → Prop}
    (hX : ∀ (w w' : World) (args : Array Value), w.heap = w'.heap → X w args → X w' args)
    (own : ownKnob C.prog.godebug = none) (started : os.Started) (noInit : C.prog.inits.idxOf? f = none) (hfn : C.prog.funcs[f]? = some fn)
    (witness : ∃ (w : World) (tape : Tape) (i : Input), w.os = os ∧ (w.forCall tape i).Shaped C.prog ∧ i.vars = [] ∧ Input.okWide C.prog (w.forCall tape i) .any w.heap.size f i ∧
      ((s.pre enc C.prog fn conds apart (w.forCall tape i).memory i.args ∧ X (w.forCall tape i).memory i.args) ∧ sizedMet enc C.prog fn (OpenSpec.ofChange s) apart (w.forCall tape i).memory i.args) ∧ a.holds C.prog (lone (Frame.enter C.prog f i.args .normal) [] (w.forCall tape i)))
    (contract : ∀ (W : World) (base : Nat) (args : Array Value) (ds gs : List (DataW H)) (before : List MemPlace),
      (∀ (j : Nat) t v, fn.params[j]? = some t → args[j]? = some v → Value.okWide C.prog W .any base t v) →
      DataW.Whole enc C.prog fn.params.toList s.vars apart W args.toList ds gs before →
      conds.all (PathCond.test C.prog ⟨fn.params.toList, ds, s.plain.varTypes C.prog, gs⟩) = true →
      (DataW.weightsEach C.prog (fn.params.toList ++ s.plain.varTypes C.prog) (ds ++ gs)).all (· ≤ reachBytes) = true → X W args → W.ShapedOpen C.prog →
      a.holds C.prog (lone (Frame.enter C.prog f args .normal) [] W) →
      Calls C.prog f args W fun e W' => ∃ v, e = .returned v ∧ s.post enc C.prog fn apart fresh handsOn again W args v W') :
    ReturnsInHanded a C os f .any (fun w args => (s.pre enc C.prog fn conds apart w args ∧ X w args) ∧ sizedMet enc C.prog fn (OpenSpec.ofChange s) apart w args) (s.post enc C.prog fn apart fresh handsOn again) := by
  refine returnsInHanded_of_calls own started noInit witness ?_
  intro w tape i _ hsh _ hok hpre hholds
  obtain ⟨_, _, _, fn', hfn', _, _, _, _, hval⟩ := hok
  have e : fn' = fn := Option.some.inj (hfn'.symm.trans hfn)
  subst e
  obtain ⟨⟨⟨ds, gs, before, hw, hc⟩, hx⟩, hz⟩ := hpre
  have hw' := DataW.Whole.of_heap (w' := w.forCall tape i) (by rfl) hw
  refine (contract (w.forCall tape i) w.heap.size i.args ds gs before hval hw' hc (hz.weights hw) (hX _ _ _ (by rfl) hx) hsh hholds).mono fun e W' ⟨v, he, hp⟩ => ?_
  subst he
  exact ChangeSpec.post_blind hp
theorem shape_ml (W : World) (h : W.ShapedOpen Tryd.prog) : ∃ m, W.cell? ⟨0, 0, none⟩ = some (.int .i64 m) := Tryd.laysM143.s1_3 W h
end Go.Proofs.YtbeoegppldjpoaaDoor

namespace Go.Proofs.YtbeoegppldjpoaaDoor.wireTells
open Go.ChangeShapes Go.WideShapes Go.ChangeAt Go.RowKit
open Go.ChangeMaps (open_string shut_string)
set_option linter.unusedVariables false
theorem own : ownKnob Tryd.prog.godebug = none := by kernel_rfl
theorem laidOut : laidOutB Tryd.prog = true := by kernel_rfl
set_option maxRecDepth 100000 in
theorem lifted (os : Os) (started : os.Started) (H : Type) (enc : TypeId × Value → H) :
    ReturnsInHanded {} Tryd.checked os 4 .any (fun w args => (Rows.wireTellsSpec.pre enc Tryd.prog Tryd.f4 Rows.wireTellsRow.domain false w args ∧ laidMetH Tryd.prog Rows.wireTellsRow.laid w) ∧ sizedMet enc Tryd.prog Tryd.f4 (OpenSpec.ofChange Rows.wireTellsSpec) false w args) (Rows.wireTellsSpec.post enc Tryd.prog Tryd.f4 false true false false) := by
  refine handed_laid_shaped (C := Tryd.checked) (X := fun w _ => laidMetH Tryd.prog Rows.wireTellsRow.laid w) (fun _ _ _ hh h => h.of_heap hh) own started (by kernel_rfl) Tryd.func4
    (ChangeSpec.witness_shaped (enc := enc) (C := Tryd.checked) (os := os) (X := fun w _ => laidMetH Tryd.prog Rows.wireTellsRow.laid w) false (World.laidAll Tryd.prog os Rows.wireTellsRow.laid) #[.agg #[.int .i64 0, .int .i64 0, .string ByteArray.empty, .string ByteArray.empty, .string ByteArray.empty, .string ByteArray.empty, .string ByteArray.empty], .agg #[.int .i64 0, .string ByteArray.empty], .int .i64 0] 8 (World.laidAll_os _ _ _)
      (World.shaped_of_ZipB (by kernel_rfl) (by kernel_rfl)) (by kernel_rfl) (by kernel_rfl) (by kernel_rfl) (by rw [MakeChecks.laidMetH_plain _ _ _ (by kernel_rfl)]; exact laidMet_laidAll _ (by kernel_rfl) (by kernel_rfl))) ?_
  intro W base args ds gs before hval0 hW hcnd hsz0 hL0 hsh0 _
  have hsz : (DataW.weightsEach Tryd.prog (Tryd.f4.params.toList ++ Rows.wireTellsSpec.plain.varTypes Tryd.prog) (ds ++ gs)).all (· ≤ reachBytes) = true := hsz0
  have hval : ∀ (j : Nat) t v, Tryd.f4.params[j]? = some t → args[j]? = some v → Value.okWide Tryd.prog W .any base t v := hval0
  have hW' := hW
  obtain ⟨p, q, hA0, hV, rfl, hfz, hnd⟩ := hW
  have hA : DataW.TrodAll enc Tryd.prog W 0 (fun _ => true) true Tryd.f4.params.toList args.toList ds p := hA0
  rw [Tryd.params4] at hA hval hsz
  obtain ⟨v0, vs0, d0, ds0, p0, q0, hargs, rfl, rfl, h0, r0⟩ := trodAll_cons hA
  obtain ⟨v1, vs1, d1, ds1, p1, q1, rfl, rfl, rfl, h1, r1⟩ := trodAll_cons r0
  obtain ⟨v2, vs2, d2, ds2, p2, q2, rfl, rfl, rfl, h2, r2⟩ := trodAll_cons r1
  obtain ⟨rfl, rfl, rfl⟩ := trodAll_nil r2
  obtain rfl : args = #[v0, v1, v2] := by cases args; simp_all
  obtain ⟨rfl, rfl⟩ := trodVars_none hV
  have k0 := h0
  have lt0 : ∀ x ∈ p0, x.block < W.heap.size := by obtain ⟨m, hm⟩ := k0; exact DataW.trod_lt m _ _ _ hm
  obtain ⟨l0, rfl, n0⟩ := open_row (ks := [.int .i64, .int .i64, .str, .str, .str, .str, .str]) Tryd.underlying23 (by kernel_rfl) (by kernel_rfl) (hval 0 23 v0 rfl rfl) h0
  have k1 := h1
  have lt1 : ∀ x ∈ p1, x.block < W.heap.size := by obtain ⟨m, hm⟩ := k1; exact DataW.trod_lt m _ _ _ hm
  obtain ⟨l1, rfl, n1⟩ := open_row (ks := [.int .i64, .str]) Tryd.underlying32 (by kernel_rfl) (by kernel_rfl) (hval 1 32 v1 rfl rfl) h1
  obtain ⟨a2, rfl, rfl, rfl, w2⟩ := open_int Tryd.underlying3 (hval 2 3 v2 rfl rfl) h2
  clear hA0 hval0 hsz0 hsz
  refine (WireTells_walk W (shape_ml W hsh0) l0 n0 l1 n1 a2 (wf_bd w2)).mono fun e W' ⟨he, fr⟩ => ?_
  have bel := fr.below0
  subst he
  exact ⟨_, rfl, _, _, _, [], _, [], hW', trodAll_mk1 (shut_bool Tryd.underlying4 _), (trodAll_cons_mk (Below.trod laidOut (by kernel_rfl) (of_decide_eq_true (by kernel_rfl)) k0 bel lt0) (trodAll_cons_mk (Below.trod laidOut (by kernel_rfl) (of_decide_eq_true (by kernel_rfl)) k1 bel lt1) (trodAll_cons_mk (shut_int Tryd.underlying3 w2) trodAll_mk0))), rfl, bel.frame _, fun h => by cases h⟩
theorem over : Rows.wireTellsRow.holds Tryd.pinned (OpenSpec.ofChange Rows.wireTellsSpec) :=
  OpenClaim.holds_of_wide 4 Tryd.f4 rfl rfl rfl rfl rfl rfl rfl ⟨rfl, rfl, rfl, rfl, rfl⟩ rfl rfl rfl rfl rfl (by kernel_rfl) Tryd.func4 (by kernel_rfl)
    (of_decide_eq_true (by kernel_rfl)) (by unfold Func.isWrapper; first | (rw [if_pos (by decide +kernel)]; kernel_rfl) | (rw [if_neg (by decide +kernel)]; exact ⟨rfl, rfl⟩))
    (fun os started H enc _ => lifted os started H enc)
theorem proved : Rows.WireTellsSaid := over
theorem cardProved : Rows.WireTellsCardSaid :=
  Claim7.holds_tied_plain_at .later [] [.data, .pinned] true (true, "aa57ce63ba4367fe0a6d73227c74817184d6aaed88ee666aab46e7775eb04df7") false proved (fun _ h => by cases h) (by kernel_rfl) (fun _ h => by cases h) wireTells_row_tie rfl ⟨rfl, rfl⟩ (by kernel_rfl) rfl
    (fun f fn hf hfn => by
      obtain rfl : f = 4 := Option.some.inj ((show Tryd.prog.funcNamed "homecoming/homecominglaw19.WireTells" = some 4 by kernel_rfl).symm.trans hf) |>.symm
      obtain rfl : fn = Tryd.f4 := (Option.some.inj (Tryd.func4.symm.trans hfn)).symm
      exact ⟨by kernel_rfl, fun j t ht => by
        rw [Tryd.params4] at ht
        have hm : t ∈ [23, 32, 3] := by simpa using Array.mem_of_getElem? ht
        have hall : ([23, 32, 3].all fun u => !Tryd.prog.wantsStandIn u) = true := by kernel_rfl
        exact (show Tryd.prog.wantsStandIn t = false by simpa using List.all_eq_true.1 hall t hm)⟩)
    (by kernel_rfl)
#print axioms cardProved
end Go.Proofs.YtbeoegppldjpoaaDoor.wireTells
namespace Go.Proofs.YtbeoegppldjpoaaDoor
/-- The card, under a short name, for the claim. -/
theorem wireTells_holds : Rows.WireTellsCardSaid := wireTells.cardProved
end Go.Proofs.YtbeoegppldjpoaaDoor
