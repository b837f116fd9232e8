/- The contract of token.Clean. -/
import Derived.Test.YtbfpfmnkmpcgpaaDoorIdxRune
import Derived.Test.YtbfpfmnkmpcgpaaDoorBS
import Derived.Test.YtbfpfmnkmpcgpaaDoorTokPure
import Derived.ArgAppend
import Derived.Laws.BitsAllLaws
namespace Go.Proofs.YtbfpfmnkmpcgpaaDoor
open Go.RowKit
set_option linter.unusedVariables false
set_option linter.unusedSimpArgs false

section
variable {P : Program} {w : World} {ops : Array Oper} {rest : List Oper} {o : Oper} {a : Act} {Q : Exit → Act → World → Prop}
/-- append of which the run is known, for the walk. -/
theorem wpList_app_run (hgd : o.guard = none) (sl x : Operand) (t : TypeId)
    (ho : o.op = .call { callee := .builtin .append, args := #[sl, x], argTypes := #[t, t] }) (v u : Value) (hs : a.eval sl = v) (hx : a.eval x = u) (v' : Value) (w' : World)
    (hr : (Builtin.append_ #[t, t] o.type #[v, u]).run P w = .ok v' w') (hK : wpList P ops Q rest (a.put o.dst v') w') : wpList P ops Q (o :: rest) a w := by
  refine wpList_plain hgd fun K hK' => ?_
  unfold Oper.wp execOp
  simp only [ho, resolve, invoke, builtin, Sem.run_bind, Sem.run_pure, Result.andThen_ok, List.map_toArray, List.map_cons, List.map_nil, hs, hx, hr]
  exact hK' _ _ hK
end
def bL (l : List UInt8) : ByteArray := ⟨l.toArray⟩
theorem bL_size (l : List UInt8) : (bL l).size = l.length := by show l.toArray.size = _; simp
/-- A capital letter's small one. -/
def lowC (c : UInt8) : UInt8 := if 65 ≤ c.toNat ∧ c.toNat ≤ 90 then UInt8.ofNat (c.toNat + 32) else c
def besideC (c : UInt8) : Bool := c.toNat == 32 || c.toNat == 9 || c.toNat == 45
def cleanL (l : List UInt8) : List UInt8 := (l.map lowC).filter fun c => !besideC c
def cleanB (s : ByteArray) : ByteArray := bL (cleanL s.data.toList)
theorem cleanL_keep (l : List UInt8) (c d : UInt8) (h : lowC c = d) (hb : besideC d = false) : cleanL (l ++ [c]) = cleanL l ++ [d] := by
  simp [cleanL, List.filter_append, h, hb]
theorem cleanL_skip (l : List UInt8) (c : UInt8) (hb : besideC (lowC c) = true) : cleanL (l ++ [c]) = cleanL l := by
  simp [cleanL, List.filter_append, hb]
theorem cleanL_len (l : List UInt8) : (cleanL l).length ≤ l.length := by
  have := List.length_filter_le (fun c => !besideC c) (l.map lowC)
  rw [List.length_map] at this
  exact this
def blanks : ByteArray := ⟨#[32, 9, 45]⟩
theorem blanks_ascii : AsciiB blanks := by
  unfold AsciiB
  decide
theorem blanks_idx : ∀ n, n < 128 → decide (0 ≤ Lib.indexByte blanks.data.toList n.toUInt8) = (n == 32 || n == 9 || n == 45) := by decide +kernel
theorem up_or : ∀ n, 65 ≤ n → n ≤ 90 → n ||| 32 = n + 32 := by
  intro n h1 h2
  have h : ∀ m, m < 128 → 65 ≤ m → m ≤ 90 → m ||| 32 = m + 32 := by decide
  exact h n (by omega) h1 h2

/-- Where the cleaning stands: the row (n bytes, o of them cleaned), whose first bytes F are written anew. -/
structure ClS (w0 w : World) (g cap : Nat) (F l : List UInt8) : Prop where
  bs : BS w g cap (bL (F ++ l.drop F.length))
  fr : Fr [] w0 w
  new : w0.heap.size ≤ g
theorem ClS.then {w0 w w' : World} {g cap : Nat} {F l : List UInt8} (h : ClS w0 w g cap F l) (hf : Fr [] w w') : ClS w0 w' g cap F l := ⟨h.bs.keep hf (by simp), h.fr.then hf, h.new⟩
theorem ClS.cell {w0 w : World} {g cap : Nat} {F l : List UInt8} (h : ClS w0 w g cap F l) (i : Nat) (hi : i < l.length) (hF : F.length ≤ i) : w.cell? ⟨g, i, none⟩ = some (.int .u8 ((l[i]).toNat : Int)) := by
  have hz : i < (bL (F ++ l.drop F.length)).size := by rw [bL_size, List.length_append, List.length_drop]; omega
  have := h.bs.cell i hz
  have e : (bL (F ++ l.drop F.length))[i] = l[i] := by
    show (F ++ l.drop F.length)[i]'(by rw [← bL_size]; exact hz) = _
    rw [List.getElem_append_right (by omega), List.getElem_drop]
    congr 1
    omega
  rw [e] at this
  exact this
theorem set_next (F l : List UInt8) (d : UInt8) (h : F.length < l.length) : (F ++ l.drop F.length).set F.length d = F ++ [d] ++ l.drop (F ++ [d]).length := by
  rw [List.set_append_right _ _ (Nat.le_refl _), Nat.sub_self, List.drop_eq_getElem_cons h, List.set_cons_zero, List.append_assoc]
  simp
theorem ClS.put {w0 w : World} {g cap : Nat} {F l : List UInt8} (h : ClS w0 w g cap F l) (d : UInt8) (hF : F.length < l.length) : ClS w0 ((w.alloc (.cells #[.int .u8 (d.toNat : Int)] 5)).setCell ⟨g, F.length, none⟩ (.int .u8 (d.toNat : Int))) g cap (F ++ [d]) l := by
  have h2 := h.then ((Fr.refl [] w).alloc (.cells #[.int .u8 (d.toNat : Int)] 5))
  refine ⟨?_, h2.fr.trans (S' := [g]) ((Fr.refl _ _).setCell (.inl (by simp)) _) (fun i hi => .inr (by simp at hi; subst hi; exact h.new)), h.new⟩
  have h3 := h2.bs.set F.length (by rw [bL_size, List.length_append, List.length_drop]; omega) d
  have e : setB (bL (F ++ l.drop F.length)) F.length d = bL (F ++ [d] ++ l.drop (F ++ [d]).length) := by
    apply ByteArray.ext
    rw [← set_next F l d hF]
    simp [setB, bL]
  rw [e] at h3
  exact h3
theorem ClS.app {w0 w : World} {g cap : Nat} {F l : List UInt8} (h : ClS w0 w g cap F l) (d : UInt8) (hF : F.length < l.length) :
    (Builtin.append_ #[34, 34] 34 #[.slice (some ⟨g, 0, none⟩) F.length cap, .slice (some ⟨w.heap.size, 0, none⟩) 1 1]).run Tryd.prog (w.alloc (.cells #[.int .u8 (d.toNat : Int)] 5)) = .ok (.slice (some ⟨g, 0, none⟩) (F.length + 1) cap) ((w.alloc (.cells #[.int .u8 (d.toNat : Int)] 5)).setCell ⟨g, F.length, none⟩ (.int .u8 (d.toNat : Int))) := by
  obtain ⟨i, hi, hz, hs, hb⟩ := info_parts infoByte
  have h2 := h.then ((Fr.refl [] w).alloc (.cells #[.int .u8 (d.toNat : Int)] 5))
  have hz2 : F.length < (bL (F ++ l.drop F.length)).size := by rw [bL_size, List.length_append, List.length_drop]; omega
  have hcap := h2.bs.cap
  have hr := run_append_room_cells (P := Tryd.prog) (w := w.alloc (.cells #[.int .u8 (d.toNat : Int)] 5)) 34 34 5 i Tryd.underlying34 hi g 0 F.length cap ⟨w.heap.size, 0, none⟩ 1 1 [.int .u8 (d.toNat : Int)] (by rw [hs]; rfl)
    (fun j u hj => by
      match j, hj with
      | 0, hj => simp at hj; subst hj; simp [Addr.add]) (by simp [Value.oneCell']) (by omega)
    (fun j hj => by
      have hj0 : j = 0 := by simpa using hj
      subst hj0
      rw [hs, Nat.mul_one, Nat.zero_add, Nat.add_zero, h2.bs.cell _ hz2]
      rfl)
    (fun j hj => by
      have hj0 : j = 0 := by simpa using hj
      subst hj0
      rw [hs, Nat.mul_one, Nat.zero_add, Nat.add_zero]
      exact h2.bs.frozen _ hz2)
  rw [hr, hs, Nat.mul_one, Nat.zero_add]
  rfl

set_option maxHeartbeats 4000000 in
set_option maxRecDepth 100000 in
theorem Clean_calls (w : World) (s : ByteArray) (hs : s.size ≤ 1000000) :
    Calls Tryd.prog 23 #[.string s] w fun e w' => e = .returned (.string (cleanB s)) ∧ Fr [] w w' := by
  have HRES : Hid (cleanB s = bL (cleanL s.data.toList)) := Lib.hid rfl
  have hll : s.data.toList.length = s.size := by rw [Array.length_toList]; rfl
  have HLL := Lib.hid hll
  have HCA : Hid (∀ (W : World) (c : Nat), c < 128 → Calls Tryd.prog 44 #[.string ⟨#[32, 9, 45]⟩, .int .i32 (c : Int)] W fun e w' => e = .returned (.bool (c == 32 || c == 9 || c == 45)) ∧ Fr [] W w') := Lib.hid (fun W c hc => by
    have := Tryd.strings_ContainsRune_ascii blanks (c : Int) W (by omega) (by omega)
    rw [show (c : Int).toNat = c from by simp, blanks_idx c hc] at this
    exact this.mono fun e w' ⟨h1, h2⟩ => ⟨h1, by rw [h2]; exact Fr.refl _ _⟩)
  have HCH : Hid (∀ (W : World) (c : Nat), 128 ≤ c → c < 256 → Calls Tryd.prog 44 #[.string ⟨#[32, 9, 45]⟩, .int .i32 (c : Int)] W fun e w' => e = .returned (.bool false) ∧ Fr [] W w') := Lib.hid (fun W c h1 h2 => ContainsRune_high blanks blanks_ascii (c : Int) (by omega) (by omega) (by decide) (by decide) W)
  obtain ⟨W2, cap, hcv, hbs, hf2⟩ := run_toBytes w s
  have h0 : ClS w W2 w.heap.size cap [] s.data.toList := ⟨by rw [List.nil_append, List.length_nil, List.drop_zero]; exact hbs, hf2, Nat.le_refl _⟩
  have hcap := hbs.cap
  generalize w.heap.size = g at h0 hcv
  have H0 := Lib.hid h0
  have hn0 : (0 : Int) ≤ (cap : Int) := by omega
  clear hbs hf2 h0 hll
  go_enter Tryd.func23, Tryd.ntmps23
  go_wp2_with fail
  clear hcv
  go_loopw [4, 6, 13] (fun v4 v6 v13 wr => ∃ i j : Nat, i ≤ s.size ∧ j ≤ i ∧ v13 = .int .i64 i ∧ v4 = .slice (some ⟨g, 0, none⟩) j cap ∧ Hid (j = (cleanL (s.data.toList.take i)).length ∧ ClS w wr g cap (cleanL (s.data.toList.take i)) s.data.toList)) (fun _ _ v13 _ => s.size - (intOf v13).toNat)
  case atStart => exact ⟨0, 0, Nat.zero_le _, Nat.le_refl _, rfl, rfl, Lib.hid ⟨rfl, H0.out⟩⟩
  case round =>
    clear H0
    obtain ⟨i, j, hi, hji, rfl, rfl, HH⟩ := hrel
    have hjl := HH.out.1
    have H := Lib.hid HH.out.2
    clear HH
    by_cases hlt : i < s.size
    · have hil : i < s.data.toList.length := by rw [HLL.out]; exact hlt
      have htk : s.data.toList.take (i + 1) = s.data.toList.take i ++ [s.data.toList[i]] := List.take_succ_eq_append_getElem hil
      have hFl := cleanL_len (s.data.toList.take i)
      rw [List.length_take] at hFl
      have c0 := H.out.cell i hil (by omega)
      have hnx0 : ∀ d, lowC s.data.toList[i] = d → besideC d = false → cleanL (s.data.toList.take (i + 1)) = cleanL (s.data.toList.take i) ++ [d] := fun d h1 h2 => by rw [htk]; exact cleanL_keep _ _ d h1 h2
      have hsk0 : besideC (lowC s.data.toList[i]) = true → cleanL (s.data.toList.take (i + 1)) = cleanL (s.data.toList.take i) := fun h1 => by rw [htk]; exact cleanL_skip _ _ h1
      have HNX := Lib.hid hnx0
      have HSK := Lib.hid hsk0
      have hjn : (cleanL (s.data.toList.take i)).length < s.data.toList.length := by omega
      clear hnx0 hsk0 htk hFl
      generalize s.data.toList[i] = c at c0 HNX HSK
      generalize hF : cleanL (s.data.toList.take i) = F at H HNX HSK hjl hjn
      generalize hF2 : cleanL (s.data.toList.take (i + 1)) = F2 at HNX HSK
      have HF2 := Lib.hid hF2
      clear hF hF2
      subst hjl
      have hc256 := c.toNat_lt
      have hi0 : (0 : Int) ≤ (i : Int) := by omega
      have hi1 : (i : Int) < (s.size : Int) := by omega
      by_cases hup : 65 ≤ c.toNat ∧ c.toNat ≤ 90
      · obtain ⟨h65, h90⟩ := hup
        obtain ⟨d, hd⟩ : ∃ d, UInt8.ofNat (c.toNat + 32) = d := ⟨_, rfl⟩
        have hdn : d.toNat = c.toNat + 32 := by rw [← hd, UInt8.toNat_ofNat']; omega
        have hbd : besideC d = false := by unfold besideC; rw [hdn]; simp; omega
        have HSN := Lib.hid (HNX.out d (by unfold lowC; rw [if_pos ⟨h65, h90⟩, hd]) hbd)
        have hor : bits .or .u8 (c.toNat : Int) 32 = (d.toNat : Int) := by
          have := u8_or_nat c.toNat 32 hc256 (by decide)
          rw [up_or _ h65 h90, ← hdn] at this
          exact this
        have HCR : Hid (∀ W, Calls Tryd.prog 44 #[.string ⟨#[32, 9, 45]⟩, .int .i32 (d.toNat : Int)] W fun e w' => e = .returned (.bool false) ∧ Fr [] W w') := Lib.hid (fun W => by
          have := HCA.out W d.toNat (by omega)
          rw [show (d.toNat == 32 || d.toNat == 9 || d.toNat == 45) = false from hbd] at this
          exact this)
        have h65' : (65 : Int) ≤ (c.toNat : Int) := by omega
        have h90' : (c.toNat : Int) ≤ 90 := by omega
        have hd256 := d.toNat_lt
        clear hd hdn HNX HSK
        go_wp2_with fail
        (with_reducible refine (HCR.out _).mono ?_)
        rintro e w2 ⟨rfl, hf2⟩
        have H2 := Lib.hid (H.out.then hf2)
        have HN := Lib.hid (H2.out.put d hjn)
        clear hf2 H HCR c0
        go_wp2_with (at_builtin; refine wpList_app_run rfl _ _ 34 rfl _ _ rfl rfl _ _ (H2.out.app d hjn) ?_)
        refine ⟨⟨i + 1, F.length + 1, by omega, by omega, by go_num, rfl, Lib.hid ⟨by rw [HF2.out, HSN.out]; simp, by rw [HF2.out, HSN.out]; exact HN.out⟩⟩, by simp only [intOf]; omega⟩
      · have hlow : lowC c = c := if_neg hup
        by_cases hhi : 128 ≤ c.toNat
        · have hbd : besideC c = false := by unfold besideC; simp; omega
          have HSN := Lib.hid (HNX.out c hlow hbd)
          have HCR : Hid (∀ W, Calls Tryd.prog 44 #[.string ⟨#[32, 9, 45]⟩, .int .i32 (c.toNat : Int)] W fun e w' => e = .returned (.bool false) ∧ Fr [] W w') := Lib.hid (fun W => HCH.out W c.toNat hhi hc256)
          have h65' : (65 : Int) ≤ (c.toNat : Int) := by omega
          have h90' : ¬ (c.toNat : Int) ≤ 90 := by omega
          clear HNX HSK hup hlow
          go_wp2_with fail
          (with_reducible refine (HCR.out _).mono ?_)
          rintro e w2 ⟨rfl, hf2⟩
          have H2 := Lib.hid (H.out.then hf2)
          have HN := Lib.hid (H2.out.put c hjn)
          clear hf2 H HCR c0
          go_wp2_with (at_builtin; refine wpList_app_run rfl _ _ 34 rfl _ _ rfl rfl _ _ (H2.out.app c hjn) ?_)
          refine ⟨⟨i + 1, F.length + 1, by omega, by omega, by go_num, rfl, Lib.hid ⟨by rw [HF2.out, HSN.out]; simp, by rw [HF2.out, HSN.out]; exact HN.out⟩⟩, by simp only [intOf]; omega⟩
        · have HCB := Lib.hid (fun W => HCA.out W c.toNat (by omega))
          have hside : (¬ (65 : Int) ≤ (c.toNat : Int)) ∨ ((65 : Int) ≤ (c.toNat : Int) ∧ ¬ (c.toNat : Int) ≤ 90) := by omega
          by_cases hbd : besideC c = true
          · have HSN := Lib.hid (HSK.out (by rw [hlow]; exact hbd))
            have HCR : Hid (∀ W, Calls Tryd.prog 44 #[.string ⟨#[32, 9, 45]⟩, .int .i32 (c.toNat : Int)] W fun e w' => e = .returned (.bool true) ∧ Fr [] W w') := Lib.hid (fun W => by
              have := HCB.out W
              rw [show (c.toNat == 32 || c.toNat == 9 || c.toNat == 45) = true from hbd] at this
              exact this)
            clear HNX HSK hup hlow HCB
            rcases hside with h65' | ⟨h65', h90'⟩
            all_goals
              go_wp2_with fail
              (with_reducible refine (HCR.out _).mono ?_)
              rintro e w2 ⟨rfl, hf2⟩
              have H2 := Lib.hid (H.out.then hf2)
              clear hf2 c0
              go_wp2_with fail
              refine ⟨⟨i + 1, F.length, by omega, by omega, by go_num, rfl, Lib.hid ⟨by rw [HF2.out, HSN.out], by rw [HF2.out, HSN.out]; exact H2.out⟩⟩, by simp only [intOf]; omega⟩
          · have hbf : besideC c = false := by simpa using hbd
            have HSN := Lib.hid (HNX.out c hlow hbf)
            have HCR : Hid (∀ W, Calls Tryd.prog 44 #[.string ⟨#[32, 9, 45]⟩, .int .i32 (c.toNat : Int)] W fun e w' => e = .returned (.bool false) ∧ Fr [] W w') := Lib.hid (fun W => by
              have := HCB.out W
              rw [show (c.toNat == 32 || c.toNat == 9 || c.toNat == 45) = false from hbf] at this
              exact this)
            clear HNX HSK hup hlow HCB hbd hbf
            rcases hside with h65' | ⟨h65', h90'⟩
            all_goals
              go_wp2_with fail
              (with_reducible refine (HCR.out _).mono ?_)
              rintro e w2 ⟨rfl, hf2⟩
              have H2 := Lib.hid (H.out.then hf2)
              have HN := Lib.hid (H2.out.put c hjn)
              clear hf2 H HCR c0
              go_wp2_with (at_builtin; refine wpList_app_run rfl _ _ 34 rfl _ _ rfl rfl _ _ (H2.out.app c hjn) ?_)
              refine ⟨⟨i + 1, F.length + 1, by omega, by omega, by go_num, rfl, Lib.hid ⟨by rw [HF2.out, HSN.out]; simp, by rw [HF2.out, HSN.out]; exact HN.out⟩⟩, by simp only [intOf]; omega⟩
    · obtain rfl : i = s.size := by omega
      have hfull : s.data.toList.take s.size = s.data.toList := List.take_of_length_le (by rw [HLL.out]; exact Nat.le_refl _)
      rw [hfull] at hjl H
      have hF := cleanL_len s.data.toList
      rw [HLL.out] at hF
      have hcut := run_bsCut H.out.bs (n := j) (c := cap) (by rw [bL_size, List.length_append]; omega)
      have he : (bL (cleanL s.data.toList ++ s.data.toList.drop (cleanL s.data.toList).length)).extract 0 j = cleanB s := by
        rw [HRES.out, hjl]
        apply ByteArray.ext
        apply Array.toList_inj.1
        simp [bL, List.extract_eq_take_drop]
      rw [he] at hcut
      clear he hfull hF hjl
      go_wp2_with fail
      go_ret
      exact ⟨rfl, H.out.fr⟩
end Go.Proofs.YtbfpfmnkmpcgpaaDoor
