/- Addresses: the document's Mail. -/
import Derived.Test.YtfaopjoglgmoiaaDoorRAddr6
import Derived.Deep.CutBlock
namespace Go.Proofs.YtfaopjoglgmoiaaDoor
open Go.RowKit Go.Lib
set_option linter.unusedVariables false
set_option linter.unusedSimpArgs false

theorem trim_left {x : UInt8} (r : List UInt8) (h : ([32, 9] : List UInt8).contains x = true) : Lib.trimS (x :: r) [32, 9] = Lib.trimS r [32, 9] := by
  unfold Lib.trimS Lib.trimLeftS Lib.trimRightS
  rw [List.reverse_cons, List.dropWhile_append]
  split
  · rename_i he
    rw [List.isEmpty_iff] at he
    rw [he, List.dropWhile_cons_of_pos h]
    rfl
  · rw [List.reverse_append]
    exact List.dropWhile_cons_of_pos h
theorem trim_right {x : UInt8} (r : List UInt8) (h : ([32, 9] : List UInt8).contains x = true) : Lib.trimS (r ++ [x]) [32, 9] = Lib.trimS r [32, 9] := by
  unfold Lib.trimS Lib.trimRightS
  rw [List.reverse_append]
  congr 2
  exact List.dropWhile_cons_of_pos h
theorem trim_done {l : List UInt8} (hh : ∀ c, l.head? = some c → ([32, 9] : List UInt8).contains c = false) (hl : ∀ c, l.getLast? = some c → ([32, 9] : List UInt8).contains c = false) : Lib.trimS l [32, 9] = l := by
  have h1 : Lib.trimRightS l [32, 9] = l := by
    unfold Lib.trimRightS
    have hr : l.reverse.dropWhile (([32, 9] : List UInt8).contains ·) = l.reverse := by
      cases hq : l.reverse with
      | nil => rfl
      | cons y r =>
        refine List.dropWhile_cons_of_neg ?_
        have : l.getLast? = some y := by rw [List.getLast?_eq_head?_reverse, hq]; rfl
        rw [hl y this]
        decide
    rw [hr, List.reverse_reverse]
  unfold Lib.trimS
  rw [h1]
  unfold Lib.trimLeftS
  cases l with
  | nil => rfl
  | cons x r =>
    refine List.dropWhile_cons_of_neg ?_
    rw [hh x rfl]
    decide
theorem spc (c : UInt8) : ([32, 9] : List UInt8).contains c = (decide (c.toNat = 32) || decide (c.toNat = 9)) := by
  have h1 : (c == 32) = decide (c.toNat = 32) := by
    by_cases h : c = 32
    · subst h; rfl
    · rw [beq_eq_false_iff_ne.2 h, decide_eq_false (show ¬ c.toNat = 32 from fun e => h (UInt8.toNat_inj.1 e))]
  have h2 : (c == 9) = decide (c.toNat = 9) := by
    by_cases h : c = 9
    · subst h; rfl
    · rw [beq_eq_false_iff_ne.2 h, decide_eq_false (show ¬ c.toNat = 9 from fun e => h (UInt8.toNat_inj.1 e))]
  simp only [List.contains_cons, h1, h2, List.contains_nil, Bool.or_false]
theorem plus_none {l : List UInt8} (h : 43 ∉ l) : plusL l = l := by
  unfold plusL
  rw [cutL_not h]
theorem plus_parts (l : List UInt8) (i : Nat) (hi : i < l.length) (hp : l[i] = 43) (hno : 43 ∉ l.take i) : cutL 43 l = some (l.take i, l.drop (i + 1)) := by
  have e : l = l.take i ++ 43 :: l.drop (i + 1) := by
    rw [← hp, ← List.drop_eq_getElem_cons hi, List.take_append_drop]
  exact (congrArg (cutL 43) e).trans (cutL_app _ hno)
theorem plus_noat {l : List UInt8} (i : Nat) (hi : i < l.length) (hp : l[i] = 43) (hno : 43 ∉ l.take i) (h64 : 64 ∉ l.drop i) : plusL l = l := by
  unfold plusL
  rw [plus_parts l i hi hp hno]
  simp only
  rw [cutL_not (fun hm => h64 (by rw [List.drop_eq_getElem_cons hi]; exact List.mem_cons_of_mem _ hm))]
theorem plus_found {l : List UInt8} (i k : Nat) (hi : i < l.length) (hp : l[i] = 43) (hno : 43 ∉ l.take i) (hik : i ≤ k) (hk : k < l.length) (h64 : l[k] = 64) (hn : 64 ∉ (l.drop i).take (k - i)) : plusL l = l.take i ++ l.drop k := by
  have hlt : i + 1 ≤ k := by
    rcases Nat.lt_or_ge i k with h | h
    · exact h
    · have e : i = k := Nat.le_antisymm hik h
      subst e
      rw [hp] at h64
      cases h64
  have e := seg_parts l (i + 1) k hlt hk
  rw [h64] at e
  have hn' : 64 ∉ (l.drop (i + 1)).take (k - (i + 1)) := fun hm => hn (by
    rw [List.drop_eq_getElem_cons hi, show k - i = (k - (i + 1)) + 1 by omega, List.take_succ_cons]
    exact List.mem_cons_of_mem _ hm)
  have hc : cutL 64 (l.drop (i + 1)) = some ((l.drop (i + 1)).take (k - (i + 1)), l.drop (k + 1)) := (congrArg (cutL 64) e).trans (cutL_app _ hn')
  unfold plusL
  rw [plus_parts l i hi hp hno]
  simp only
  rw [hc]
  simp only
  rw [← h64, ← List.drop_eq_getElem_cons hk]
theorem plus_len (l : List UInt8) : (plusL l).length ≤ l.length := by
  unfold plusL
  cases h : cutL 43 l with
  | none => exact Nat.le_refl _
  | some p =>
    obtain ⟨a, b⟩ := p
    obtain ⟨e, -⟩ := cutL_some h
    simp only
    cases h2 : cutL 64 b with
    | none => exact Nat.le_refl _
    | some q =>
      obtain ⟨c, d⟩ := q
      obtain ⟨e2, -⟩ := cutL_some h2
      rw [e, e2]
      simp
      omega
def szOf : Value → Nat
  | .string s => s.size
  | _ => 0

set_option maxHeartbeats 4000000 in
set_option maxRecDepth 100000 in
theorem RMail_calls (w : World) (s : ByteArray) (hs : s.size ≤ 100000) :
    Calls Tryd.prog 25 #[.string s] w fun e w' => e = .returned (.tuple #[.string (mailS s.data.toList).1, .bool (mailS s.data.toList).2]) ∧ Fr [] w w' := by
  obtain ⟨M, hM⟩ : ∃ M, M = mailOf s.data.toList := ⟨_, rfl⟩
  have hMl : M.length ≤ 100000 := by
    have h1 := plus_len ((Lib.trimS s.data.toList [32, 9]).map lowC)
    have h2 := trimS_len s.data.toList [32, 9]
    rw [List.length_map] at h1
    rw [len_size] at h2
    rw [hM]
    exact Nat.le_trans (Nat.le_trans h1 h2) hs
  have hc := fun W => rmail_calls W (bL M) (by rw [bL_size]; omega)
  rw [bL_data] at hc
  have hres : ∀ b, mailL M = b → mailS s.data.toList = if b then (bL M, true) else (⟨#[]⟩, false) := fun b h => by
    unfold mailS mailR
    rw [← hM, h]
    cases b <;> rfl
  generalize mailL M = mb at hc hres
  have hres2 := hres mb rfl
  obtain ⟨R1, R2, hR⟩ : ∃ a b, mailS s.data.toList = (a, b) := ⟨_, _, rfl⟩
  rw [hR] at hres2 ⊢
  simp only
  have HC := Lib.hid hc
  have HM := Lib.hid hM
  have HR := Lib.hid hres2
  clear hc hM hR hres2 hres hMl
  go_enter Tryd.func25, Tryd.ntmps25
  go_upto_block 0 with fail
  go_cut [0] from 11 to 25 (fun s0 wx => ∃ t : ByteArray, s0 = .string t ∧ t.size ≤ s.size ∧ wx = w ∧ Hid (Lib.trimS t.data.toList [32, 9] = Lib.trimS s.data.toList [32, 9] ∧ ∀ c, t.data.toList.head? = some c → ([32, 9] : List UInt8).contains c = false))
  case first =>
    go_wp2_with fail
    go_loopw [0] (fun v0 wr => ∃ t : ByteArray, v0 = .string t ∧ t.size ≤ s.size ∧ wr = w ∧ Hid (Lib.trimS t.data.toList [32, 9] = Lib.trimS s.data.toList [32, 9])) (fun v0 _ => szOf v0)
    case atStart => exact ⟨s, rfl, Nat.le_refl _, rfl, rfl⟩
    case round =>
      obtain ⟨t, rfl, ht, hwr, H⟩ := hrel
      have HW := Lib.hid hwr
      clear hwr
      by_cases h0 : t.size = 0
      · have h0' : (t.size : Int) = 0 := by omega
        have hE := str_emptyA h0
        subst hE
        clear h0 h0'
        go_wp2_with fail
        go_meet
        exact ⟨⟨#[]⟩, rfl, ht, HW.out, H.out, fun c h => by cases h⟩
      · have hx0 : 0 < t.size := by omega
        have hz0 : (0 : Int) < (t.size : Int) := by omega
        have hz1 : (1 : Int) ≤ (t.size : Int) := by omega
        have hz2 : 1 ≤ t.size := by omega
        have hl := len_size t
        have hd : t.data.toList = (t[0]'hx0) :: t.data.toList.drop 1 := by
          have h := List.drop_eq_getElem_cons (l := t.data.toList) (i := 0) (by omega)
          rw [List.drop_zero] at h
          exact h
        have hn : (t.extract 1 t.size).size = t.size - 1 := by rw [ByteArray.size_extract]; omega
        by_cases h32 : ((t[0]'hx0).toNat : Int) = 32
        · have hnx : Lib.trimS (t.extract 1 t.size).data.toList [32, 9] = Lib.trimS s.data.toList [32, 9] := by
            rw [ext_drop, ← H.out]
            conv => rhs; rw [hd]
            exact (trim_left _ (by rw [spc, decide_eq_true (by omega)]; rfl)).symm
          have HN := Lib.hid hnx
          have HS := Lib.hid hn
          clear hnx hd hl H hn
          go_wp2_with fail
          exact ⟨⟨_, rfl, by have := HS.out; omega, HW.out, HN⟩, by simp only [szOf]; have := HS.out; omega⟩
        · by_cases h9 : ((t[0]'hx0).toNat : Int) = 9
          · have hnx : Lib.trimS (t.extract 1 t.size).data.toList [32, 9] = Lib.trimS s.data.toList [32, 9] := by
              rw [ext_drop, ← H.out]
              conv => rhs; rw [hd]
              exact (trim_left _ (by rw [spc, decide_eq_true (show (t[0]'hx0).toNat = 9 by omega), Bool.or_true])).symm
            have HN := Lib.hid hnx
            have HS := Lib.hid hn
            clear hnx hd hl H hn
            go_wp2_with fail
            exact ⟨⟨_, rfl, by have := HS.out; omega, HW.out, HN⟩, by simp only [szOf]; have := HS.out; omega⟩
          · have hne : ∀ c, t.data.toList.head? = some c → ([32, 9] : List UInt8).contains c = false := fun c h => by
              rw [hd] at h
              injection h with h
              rw [← h, spc, decide_eq_false (by omega), decide_eq_false (by omega)]
              rfl
            have HN := Lib.hid hne
            have b32 : (((t[0]'hx0).toNat : Int) == 32) = false := beq_eq_false_iff_ne.2 h32
            have b9 : (((t[0]'hx0).toNat : Int) == 9) = false := beq_eq_false_iff_ne.2 h9
            clear hne hd hl hn
            go_wp2_with fail
            go_meet
            exact ⟨t, rfl, ht, HW.out, H.out, HN.out⟩
  case rest =>
    obtain ⟨t1, rfl, ht1, hwc, HT1⟩ := hcut
    have HW1 := Lib.hid hwc
    clear hwc
    go_upto_block 2 with fail
    go_cut [0] from 26 to 49 (fun s0 wx => ∃ t : ByteArray, s0 = .string t ∧ t.size ≤ s.size ∧ wx = w ∧ Hid (t.data.toList = Lib.trimS s.data.toList [32, 9]))
    case first =>
      go_wp2_with fail
      go_loopw [0] (fun v0 wr => ∃ t : ByteArray, v0 = .string t ∧ t.size ≤ s.size ∧ wr = w ∧ Hid (Lib.trimS t.data.toList [32, 9] = Lib.trimS s.data.toList [32, 9] ∧ ∀ c, t.data.toList.head? = some c → ([32, 9] : List UInt8).contains c = false)) (fun v0 _ => szOf v0)
      case atStart => exact ⟨t1, rfl, ht1, HW1.out, HT1⟩
      case round =>
        clear HT1
        obtain ⟨t, rfl, ht, hwr, H⟩ := hrel
        have HW := Lib.hid hwr
        clear hwr
        by_cases h0 : t.size = 0
        · have h0' : (t.size : Int) = 0 := by omega
          have hE := str_emptyA h0
          have hq : Lib.trimS t.data.toList [32, 9] = t.data.toList := trim_done H.out.2 (fun c h => by rw [empty_list h0] at h; cases h)
          have HQ := Lib.hid hq
          clear hq
          subst hE
          clear h0 h0'
          go_wp2_with fail
          go_meet
          exact ⟨⟨#[]⟩, rfl, ht, HW.out, HQ.out.symm.trans H.out.1⟩
        · have hx0 : t.size - 1 < t.size := by omega
          have hz0 : (0 : Int) < (t.size : Int) := by omega
          have hz1 : (1 : Int) ≤ (t.size : Int) := by omega
          have hz2 : 1 ≤ t.size := by omega
          have hx2 : ((t.size : Int) - 1).toNat < t.size := by omega
          have hx3 : (0 : Int) ≤ (t.size : Int) - 1 := by omega
          have hx4 : (t.size : Int) - 1 < (t.size : Int) := by omega
          have hx5 : (t.size : Int) - 1 ≤ (t.size : Int) := by omega
          have ht1' : ((t.size : Int) - 1).toNat = t.size - 1 := by omega
          have hl := len_size t
          have hd : t.data.toList = t.data.toList.take (t.size - 1) ++ [t[t.size - 1]'hx0] := by
            have h := List.take_succ_eq_append_getElem (l := t.data.toList) (i := t.size - 1) (by omega)
            rw [show t.size - 1 + 1 = t.data.toList.length by omega, List.take_length] at h
            exact h
          have hn : (t.extract 0 (t.size - 1)).size = t.size - 1 := by rw [ByteArray.size_extract]; omega
          have hhd : ∀ c, (t.extract 0 (t.size - 1)).data.toList.head? = some c → ([32, 9] : List UInt8).contains c = false := fun c h => by
            rw [ext_take, List.head?_take] at h
            split at h
            · cases h
            · exact H.out.2 c h
          by_cases h32 : ((t[t.size - 1]'hx0).toNat : Int) = 32
          · have hnx : Lib.trimS (t.extract 0 (t.size - 1)).data.toList [32, 9] = Lib.trimS s.data.toList [32, 9] := by
              rw [ext_take, ← H.out.1]
              conv => rhs; rw [hd]
              exact (trim_right _ (by rw [spc, decide_eq_true (by omega)]; rfl)).symm
            have HN := Lib.hid (And.intro hnx hhd)
            have HS := Lib.hid hn
            have b32 : (((t[t.size - 1]'hx0).toNat : Int) == 32) = true := beq_iff_eq.2 h32
            clear hnx hhd hd hl H hn
            go_wp2_with fail
            exact ⟨⟨_, rfl, by have := HS.out; omega, HW.out, HN⟩, by simp only [szOf]; have := HS.out; omega⟩
          · have b32 : (((t[t.size - 1]'hx0).toNat : Int) == 32) = false := beq_eq_false_iff_ne.2 h32
            by_cases h9 : ((t[t.size - 1]'hx0).toNat : Int) = 9
            · have hnx : Lib.trimS (t.extract 0 (t.size - 1)).data.toList [32, 9] = Lib.trimS s.data.toList [32, 9] := by
                rw [ext_take, ← H.out.1]
                conv => rhs; rw [hd]
                exact (trim_right _ (by rw [spc, decide_eq_true (show (t[t.size - 1]'hx0).toNat = 9 by omega), Bool.or_true])).symm
              have HN := Lib.hid (And.intro hnx hhd)
              have HS := Lib.hid hn
              have b9 : (((t[t.size - 1]'hx0).toNat : Int) == 9) = true := beq_iff_eq.2 h9
              clear hnx hhd hd hl H hn
              go_wp2_with fail
              exact ⟨⟨_, rfl, by have := HS.out; omega, HW.out, HN⟩, by simp only [szOf]; have := HS.out; omega⟩
            · have hne : ∀ c, t.data.toList.getLast? = some c → ([32, 9] : List UInt8).contains c = false := fun c h => by
                rw [hd, List.getLast?_append] at h
                simp only [List.getLast?_singleton, Option.some_or, Option.some.injEq] at h
                rw [← h, spc, decide_eq_false (by omega), decide_eq_false (by omega)]
                rfl
              have HN := Lib.hid ((trim_done H.out.2 hne).symm.trans H.out.1)
              have b9 : (((t[t.size - 1]'hx0).toNat : Int) == 9) = false := beq_eq_false_iff_ne.2 h9
              clear hne hd hl hn hhd
              go_wp2_with fail
              go_meet
              exact ⟨t, rfl, ht, HW.out, HN⟩
    case rest =>
      clear HT1 HW1
      obtain ⟨t, rfl, ht, hwc, HT⟩ := hcut
      have HW2 := Lib.hid hwc
      clear hwc
      go_wp2_with fail
      go_loopw [4, 5] (fun v4 v5 wr => ∃ (i : Nat) (r : List Nat), v5 = .int .i64 i ∧ i ≤ t.size ∧ Hid (SRow 5 1 wr v4 r i (Lib.strCells (bL ((t.data.toList.take i).map lowC))) ∧ Fr [] w wr ∧ ∀ i, i ∈ r → w.heap.size ≤ i)) (fun _ v5 _ => t.size - (intOf v5).toNat)
      case atStart => exact ⟨0, [], rfl, Nat.zero_le _, Lib.hid ⟨SRow.nil _ _ _, by rw [HW2.out]; exact Fr.refl _ _, by simp⟩⟩
      case round =>
        clear HW2
        obtain ⟨i, r, rfl, hi, H⟩ := hrel
        by_cases hlt : i < t.size
        · have htk := take_nxt t i hlt
          have hi0 : (0 : Int) ≤ (i : Int) := by omega
          have hi1 : (i : Int) < (t.size : Int) := by omega
          have hc256 : ((t[i]).toNat : Int) ≤ 255 := by have := (t[i]).toNat_lt; omega
          have hmp : (t.data.toList.take (i + 1)).map lowC = (t.data.toList.take i).map lowC ++ [lowC (t[i]'hlt)] := by
            rw [htk, List.map_append]
            rfl
          generalize hF : (t.data.toList.take i).map lowC = F at H hmp
          obtain ⟨A2, cap2, rfl, hnc, hcm, hrd, hblk⟩ := H.out.1.reads
          clear hrd hblk htk hF
          by_cases hup : 65 ≤ (t[i]).toNat ∧ (t[i]).toNat ≤ 90
          · obtain ⟨h65, h90⟩ := hup
            obtain ⟨d, hd⟩ : ∃ d, UInt8.ofNat ((t[i]).toNat + 32) = d := ⟨_, rfl⟩
            have hdn : d.toNat = (t[i]).toNat + 32 := by rw [← hd, UInt8.toNat_ofNat']; omega
            have hlo : lowC (t[i]'hlt) = d := by unfold lowC; rw [if_pos ⟨h65, h90⟩, hd]
            rw [hlo] at hmp
            have HSN := Lib.hid hmp
            have h65' : (65 : Int) ≤ ((t[i]).toNat : Int) := by omega
            have h90' : ((t[i]).toNat : Int) ≤ 90 := by omega
            have hw1 : IntKind.u8.wrap (((t[i]).toNat : Int) - 65) = ((t[i]).toNat : Int) - 65 := by rw [IntKind.wrap_u8]; omega
            have hw2 : IntKind.u8.wrap (((t[i]).toNat : Int) - 65 + 97) = (d.toNat : Int) := by rw [IntKind.wrap_u8, hdn]; omega
            have hsm : ((t[i]).toNat : Int) - 65 + 97 = (d.toNat : Int) := by omega
            clear hmp hlo hd hdn
            go_wp2_with (at_builtin; refine wpList_sapp rfl _ _ 30 rfl 5 Tryd.underlying30 _ 1 1 infoByte rfl (by decide) (.slice A2 i cap2) r i _ rfl (H.out.1.keep ((Fr.refl [] _).alloc _) (by simp)) ⟨wr.heap.size, 0, none⟩ 1 1 [.int .u8 (d.toNat : Int)] rfl rfl (by exact RdV.new _ #[.int .u8 (d.toNat : Int)] 5 rfl rfl) (by simp [Value.oneCell']) (by simp only [maxLen]; omega) (by omega) ?_)
            intro v' w2 r' h6 hf2 hn2
            go_wp2_with fail
            have h7 : Fr r wr w2 := ((Fr.refl r wr).alloc _).trans hf2 (fun k hk => .inl hk)
            refine ⟨⟨i + 1, r', by go_num, by omega, Lib.hid ⟨?_, H.out.2.1.trans h7 (fun i hi => .inr (H.out.2.2 i hi)), fun i hi => (hn2 i hi).elim (H.out.2.2 i) (fun h9 => by have := H.out.2.1.size; first | omega | (simp at h9; omega))⟩⟩, by simp only [intOf]; omega⟩
            rw [HSN.out, ← strCells_snoc]
            exact h6
          · have hlo : lowC (t[i]'hlt) = t[i]'hlt := by unfold lowC; rw [if_neg hup]
            rw [hlo] at hmp
            have HSN := Lib.hid hmp
            clear hmp hlo
            by_cases h65 : (65 : Int) ≤ ((t[i]).toNat : Int)
            · have h90' : ¬ ((t[i]).toNat : Int) ≤ 90 := by omega
              clear hup
              go_wp2_with (at_builtin; refine wpList_sapp rfl _ _ 30 rfl 5 Tryd.underlying30 _ 1 1 infoByte rfl (by decide) (.slice A2 i cap2) r i _ rfl (H.out.1.keep ((Fr.refl [] _).alloc _) (by simp)) ⟨wr.heap.size, 0, none⟩ 1 1 [.int .u8 ((t[i]).toNat : Int)] rfl rfl (by exact RdV.new _ #[.int .u8 ((t[i]).toNat : Int)] 5 rfl rfl) (by simp [Value.oneCell']) (by simp only [maxLen]; omega) (by omega) ?_)
              intro v' w2 r' h6 hf2 hn2
              go_wp2_with fail
              have h7 : Fr r wr w2 := ((Fr.refl r wr).alloc _).trans hf2 (fun k hk => .inl hk)
              refine ⟨⟨i + 1, r', by go_num, by omega, Lib.hid ⟨?_, H.out.2.1.trans h7 (fun i hi => .inr (H.out.2.2 i hi)), fun i hi => (hn2 i hi).elim (H.out.2.2 i) (fun h9 => by have := H.out.2.1.size; first | omega | (simp at h9; omega))⟩⟩, by simp only [intOf]; omega⟩
              rw [HSN.out, ← strCells_snoc]
              exact h6
            · clear hup
              go_wp2_with (at_builtin; refine wpList_sapp rfl _ _ 30 rfl 5 Tryd.underlying30 _ 1 1 infoByte rfl (by decide) (.slice A2 i cap2) r i _ rfl (H.out.1.keep ((Fr.refl [] _).alloc _) (by simp)) ⟨wr.heap.size, 0, none⟩ 1 1 [.int .u8 ((t[i]).toNat : Int)] rfl rfl (by exact RdV.new _ #[.int .u8 ((t[i]).toNat : Int)] 5 rfl rfl) (by simp [Value.oneCell']) (by simp only [maxLen]; omega) (by omega) ?_)
              intro v' w2 r' h6 hf2 hn2
              go_wp2_with fail
              have h7 : Fr r wr w2 := ((Fr.refl r wr).alloc _).trans hf2 (fun k hk => .inl hk)
              refine ⟨⟨i + 1, r', by go_num, by omega, Lib.hid ⟨?_, H.out.2.1.trans h7 (fun i hi => .inr (H.out.2.2 i hi)), fun i hi => (hn2 i hi).elim (H.out.2.2 i) (fun h9 => by have := H.out.2.1.size; first | omega | (simp at h9; omega))⟩⟩, by simp only [intOf]; omega⟩
              rw [HSN.out, ← strCells_snoc]
              exact h6
        · obtain rfl : i = t.size := by omega
          have hH := H.out
          rw [List.take_of_length_le (by rw [len_size]; exact Nat.le_refl _)] at hH
          have hMT : M = plusL (t.data.toList.map lowC) := by rw [HM.out, HT.out]; rfl
          have hTs : (t.data.toList.map lowC).length = t.size := by rw [List.length_map, len_size]
          generalize t.data.toList.map lowC = T at hH hMT hTs
          have hz : (bL T).size = t.size := by rw [bL_size, hTs]
          have hH1 := hH.1
          obtain ⟨A2, cap2, rfl, hnc, hcm, hrd, hblk⟩ := hH1.reads
          have hsp : ∀ ad, A2 = some ad → ad.spot = none := by
            rintro ad rfl
            rcases hH1.1.2 with ⟨h1, _⟩ | ⟨g, cap, cur, h1, _⟩ <;> cases h1
            rfl
          have hcv := fun c => run_toString (P := Tryd.prog) (w := wr) (c := c) Tryd.underlying30 Tryd.underlying5 Tryd.underlying9 hz.symm hrd hsp
          have HF := Lib.hid hH.2.1
          have HMT := Lib.hid hMT
          have HZ := Lib.hid hz
          have HTS := Lib.hid hTs
          have hTn : T.length ≤ 100000 := by omega
          clear hH hH1 H hrd hblk hz hsp hMT hTs HM HT
          go_upto_block 6 with fail
          clear hcv
          obtain ⟨B, hB⟩ : ∃ B, B = bL T := ⟨_, rfl⟩
          rw [← hB]
          have hBn : B.size ≤ 100000 := by rw [hB, bL_size]; exact hTn
          have hBd : B.data.toList = T := by rw [hB, bL_data]
          have hMB : M = plusL B.data.toList := by rw [hBd]; exact HMT.out
          have HMB := Lib.hid hMB
          clear hB hBd HZ HTS hTn hMB HMT
          go_cut [7, 8, 9] from 74 to 101 (fun s7 s8 s9 wx => s7 = .string (bL M) ∧ Hid (Fr [] w wx))
          case first =>
            clear HC HR
            go_wp2_with fail
            go_loopw [7, 8] (fun v7 v8 wr => ∃ i : Nat, v7 = .string B ∧ v8 = .int .i64 i ∧ i ≤ B.size ∧ Hid (43 ∉ B.data.toList.take i ∧ Fr [] w wr)) (fun _ v8 _ => B.size - (intOf v8).toNat)
            case atStart => exact ⟨0, rfl, rfl, Nat.zero_le _, by rw [List.take_zero]; exact ⟨by simp, HF.out⟩⟩
            case round =>
              clear HF
              obtain ⟨i, rfl, rfl, hi, H⟩ := hrel
              by_cases hlt : i < B.size
              · have hil : i < B.data.toList.length := by rw [len_size]; exact hlt
                have hg : B.data.toList[i] = B[i]'hlt := rfl
                by_cases h43 : B[i]'hlt = 43
                · have hd0 : ((B[i]'hlt).toNat : Int) = 43 := by rw [h43]; rfl
                  have hdn : (((B[i]'hlt).toNat : Int) != 43) = false := bne_eq_false_iff_eq.2 hd0
                  have HP := Lib.hid (hg.trans h43)
                  clear h43 hg
                  go_wp2_with fail
                  go_loopw [7, 9] (fun v7 v9 wz => ∃ k : Nat, v7 = .string B ∧ v9 = .int .i64 k ∧ i ≤ k ∧ k ≤ B.size ∧ Hid (64 ∉ (B.data.toList.drop i).take (k - i) ∧ Fr [] w wz)) (fun _ v9 _ => B.size - (intOf v9).toNat)
                  case atStart => exact ⟨i, rfl, rfl, Nat.le_refl _, hi, by rw [Nat.sub_self, List.take_zero]; exact ⟨by simp, H.out.2⟩⟩
                  case round =>
                    obtain ⟨k, rfl, rfl, hik, hk, H2⟩ := hrel
                    by_cases hkl : k < B.size
                    · have hkl' : k < B.data.toList.length := by rw [len_size]; exact hkl
                      have hgk : B.data.toList[k] = B[k]'hkl := rfl
                      by_cases h64 : B[k]'hkl = 64
                      · have hbm : B.extract 0 i ++ B.extract k B.size = bL M := by
                          rw [HMB.out, plus_found i k hil HP.out H.out.1 hik hkl' (hgk.trans h64) H2.out.1]
                          refine bL_of ?_
                          rw [ByteArray.data_append, Array.toList_append, ext_take, ext_drop]
                        have hd6 : ((B[k]'hkl).toNat : Int) = 64 := by rw [h64]; rfl
                        have z1 : (B.extract 0 i).size ≤ 100000 := by rw [ByteArray.size_extract]; omega
                        have z2 : (B.extract k B.size).size ≤ 100000 := by rw [ByteArray.size_extract]; omega
                        have g1 : (9223372036854775807 < (B.extract 0 i).size + (B.extract k B.size).size) = False := eq_false (by omega)
                        have HBM := Lib.hid hbm
                        have HF2 := Lib.hid H2.out.2
                        clear hbm h64 hgk z1 z2 H H2 HP hdn hd0
                        go_wp2_with fail
                        go_quiet (fail)
                        go_wp2_with fail
                        go_meet
                        exact ⟨congrArg Value.string HBM.out, by first | exact HF2 | exact Lib.hid (HF2.out.drewN _)⟩
                      · have hd6 : ¬ ((B[k]'hkl).toNat : Int) = 64 := fun e => h64 (UInt8.toNat_inj.1 (by show _ = 64; omega))
                        have hn : 64 ∉ (B.data.toList.drop i).take (k + 1 - i) := by
                          rw [seg_next _ i k hik hkl', hgk]
                          simp [H2.out.1, Ne.symm h64]
                        have HN := Lib.hid (And.intro hn H2.out.2)
                        clear hn h64 hgk H2
                        go_wp2_with fail
                        exact ⟨⟨k + 1, rfl, by go_num, by omega, by omega, HN⟩, by simp only [intOf]; omega⟩
                    · obtain rfl : k = B.size := by omega
                      have hbm : B = bL M := by
                        have h := H2.out.1
                        rw [List.take_of_length_le (by rw [List.length_drop, len_size]; exact Nat.le_refl _)] at h
                        rw [HMB.out, plus_noat i hil HP.out H.out.1 h, bL_list]
                      have HBM := Lib.hid hbm
                      have HF2 := Lib.hid H2.out.2
                      clear hbm H H2 HP hdn hd0
                      go_wp2_with fail
                      go_meet
                      exact ⟨congrArg Value.string HBM.out, HF2⟩
                · have hd0 : ¬ ((B[i]'hlt).toNat : Int) = 43 := fun e => h43 (UInt8.toNat_inj.1 (by show _ = 43; omega))
                  have hn : 43 ∉ B.data.toList.take (i + 1) := by
                    rw [List.take_succ_eq_append_getElem hil, hg]
                    simp [H.out.1, Ne.symm h43]
                  have HN := Lib.hid (And.intro hn H.out.2)
                  clear hn h43 hg H
                  go_wp2_with fail
                  exact ⟨⟨i + 1, rfl, by go_num, by omega, HN⟩, by simp only [intOf]; omega⟩
              · obtain rfl : i = B.size := by omega
                have hbm : B = bL M := by
                  have h := H.out.1
                  rw [List.take_of_length_le (by rw [len_size]; exact Nat.le_refl _)] at h
                  rw [HMB.out, plus_none h, bL_list]
                have HBM := Lib.hid hbm
                have HF2 := Lib.hid H.out.2
                clear hbm H
                go_wp2_with fail
                go_meet
                exact ⟨congrArg Value.string HBM.out, HF2⟩
          case rest =>
            clear HF HMB
            obtain ⟨rfl, HF6⟩ := hcut
            have HRE := Lib.hid HR.out
            clear HR
            cases mb
            · have hE := HRE.out
              simp only [Bool.false_eq_true, if_false] at hE
              injection hE with hE1 hE2
              subst hE1 hE2
              clear HRE
              go_wp2_with fail
              (with_reducible refine (HC.out _).mono ?_)
              rintro e w1 ⟨rfl, rfl⟩
              go_wp2_with fail
              go_ret2
              exact ⟨rfl, HF6.out⟩
            · have hE := HRE.out
              simp only [if_true] at hE
              injection hE with hE1 hE2
              subst hE1 hE2
              clear HRE
              go_wp2_with fail
              (with_reducible refine (HC.out _).mono ?_)
              rintro e w1 ⟨rfl, rfl⟩
              go_wp2_with fail
              go_ret2
              exact ⟨rfl, HF6.out⟩
end Go.Proofs.YtfaopjoglgmoiaaDoor
