/- The derived digest of layer 7: plain Lean; the contract of Derive. -/
import Derived.Test.YtlcfambhjclkiaaMac2
import Derived.Test.YtlcfambhjclkiaaBS
namespace Go.Proofs.Ytlcfambhjclkiaa
open Go.RowKit
set_option linter.unusedVariables false
set_option linter.unusedSimpArgs false

def xor2 (a b : List UInt8) : List UInt8 := a.zipWith (fun x y => UInt8.ofNat (x.toNat ^^^ y.toNat)) b
theorem xor2_len {a b : List UInt8} (h : a.length = b.length) : (xor2 a b).length = a.length := by
  rw [xor2, List.length_zipWith, h, Nat.min_self]
def dvFirst : ByteArray := ⟨#[0, 0, 0, 1]⟩
def dvU (key salt : ByteArray) : Nat → ByteArray
  | 0 => macB key (salt ++ dvFirst)
  | k + 1 => macB key (dvU key salt k)
def dvO (key salt : ByteArray) : Nat → List UInt8
  | 0 => (dvU key salt 0).data.toList
  | k + 1 => xor2 (dvO key salt k) (dvU key salt (k + 1)).data.toList
/-- The derived digest. -/
def deriveB (key salt : ByteArray) (r : Nat) : ByteArray := if r < 1 then ⟨#[]⟩ else lB (dvO key salt (r - 1))
theorem dvU_size (key salt : ByteArray) : ∀ k, (dvU key salt k).size = 32
  | 0 => macB_size _ _
  | k + 1 => macB_size _ _
theorem dvU_len (key salt : ByteArray) (k : Nat) : (dvU key salt k).data.toList.length = 32 := by
  rw [Array.length_toList]; exact dvU_size key salt k
theorem dvO_len (key salt : ByteArray) : ∀ k, (dvO key salt k).length = 32
  | 0 => dvU_len key salt 0
  | k + 1 => by rw [dvO, xor2_len (by rw [dvO_len key salt k, dvU_len]), dvO_len key salt k]
/-- The first i bytes are turned. -/
def xor2K (a b : List UInt8) (i : Nat) : List UInt8 := xor2 (a.take i) (b.take i) ++ a.drop i
theorem xor2K_zero (a b : List UInt8) : xor2K a b 0 = a := by simp [xor2K, xor2]
theorem xor2K_all {a b : List UInt8} (h : a.length = b.length) : xor2K a b a.length = xor2 a b := by
  rw [xor2K, List.take_of_length_le (Nat.le_refl _), List.take_of_length_le (by omega), List.drop_of_length_le (Nat.le_refl _), List.append_nil]
theorem xor2K_len {a b : List UInt8} (h : a.length = b.length) (i : Nat) : (xor2K a b i).length = a.length := by
  rw [xor2K, List.length_append, xor2_len (by simp [h]), List.length_take, List.length_drop]; omega
theorem xor2K_get {a b : List UInt8} (h : a.length = b.length) (i : Nat) (hi : i < a.length) : (xor2K a b i)[i]? = some a[i] := by
  have h1 : (xor2 (a.take i) (b.take i)).length = i := by rw [xor2_len (by simp [h]), List.length_take]; omega
  rw [xor2K, List.getElem?_append_right (by omega), h1, Nat.sub_self, List.getElem?_drop, Nat.add_zero, List.getElem?_eq_getElem hi]
theorem xor2K_set {a b : List UInt8} (h : a.length = b.length) (i : Nat) (hi : i < a.length) : (xor2K a b i).set i (UInt8.ofNat ((a[i]).toNat ^^^ (b[i]'(by omega)).toNat)) = xor2K a b (i + 1) := by
  have h1 : (xor2 (a.take i) (b.take i)).length = i := by rw [xor2_len (by simp [h]), List.length_take]; omega
  rw [xor2K, List.set_append_right _ _ (by omega), h1, Nat.sub_self, List.drop_eq_getElem_cons hi, List.set_cons_zero, xor2K, List.take_succ_eq_append_getElem hi, List.take_succ_eq_append_getElem (show i < b.length by omega)]
  rw [xor2, xor2, List.zipWith_append (by simp [h])]
  simp
theorem setB_lB (l : List UInt8) (i : Nat) (d : UInt8) : setB (lB l) i d = lB (l.set i d) := by
  apply ByteArray.ext
  simp [setB, lB]

/-- How many digests a derived one takes. -/
def dvK (key : ByteArray) (r : Nat) : Nat := r * (2 * macK key + 2)
/-- Where Derive stands. -/
structure DvS (w0 w : World) (m : Option Nat) (n g cap : Nat) (l : List UInt8) : Prop where
  bb : BS w g cap (lB l)
  mt : MtR w m n
  fr : Fr m.toList w0 w
  new : w0.heap.size ≤ g
  ne : ∀ b, m = some b → b < w0.heap.size
theorem DvS.gm {w0 w : World} {m : Option Nat} {n g cap : Nat} {l : List UInt8} (h : DvS w0 w m n g cap l) : g ∉ m.toList := by
  intro hm
  cases m with
  | none => simp at hm
  | some b => simp at hm; have := h.ne b rfl; have := h.new; omega
theorem DvS.set {w0 w : World} {m : Option Nat} {n g cap : Nat} {l : List UInt8} (h : DvS w0 w m n g cap l) (i : Nat) (hi : i < l.length) (d : UInt8) : DvS w0 (w.setCell ⟨g, i, none⟩ (.int .u8 (d.toNat : Int))) m n g cap (l.set i d) :=
  ⟨by rw [← setB_lB]; exact h.bb.set i (by rw [lB_size]; exact hi) d, h.mt.keep (S := [g]) ((Fr.refl _ _).setCell (.inl (by simp)) _) (fun b hb => by have := h.ne b hb; have := h.new; simp; omega), h.fr.trans (S' := [g]) ((Fr.refl _ _).setCell (.inl (by simp)) _) (fun i hi => .inr (by simp at hi; have := h.new; omega)), h.new, h.ne⟩
theorem DvS.drew {w0 w : World} {m : Option Nat} {n g cap : Nat} {l : List UInt8} (h : DvS w0 w m n g cap l) : DvS w0 w.drew m n g cap l := ⟨h.bb, h.mt.keep ((Fr.refl [] _).drew) (by simp), h.fr.drew, h.new, h.ne⟩
theorem DvS.mac {w0 w w' : World} {m : Option Nat} {n n' g cap : Nat} {l : List UInt8} (h : DvS w0 w m n g cap l) (hm : MtR w' m n') (hf : Fr m.toList w w') : DvS w0 w' m n' g cap l :=
  ⟨h.bb.keep hf h.gm, hm, h.fr.trans hf (fun i hi => .inl hi), h.new, h.ne⟩
theorem DvS.alloc {w0 w : World} {m : Option Nat} {n g cap : Nat} {l : List UInt8} (h : DvS w0 w m n g cap l) (o : Obj) : DvS w0 (w.alloc o) m n g cap l :=
  ⟨h.bb.keep ((Fr.refl [] _).alloc o) (by simp), h.mt.keep ((Fr.refl [] _).alloc o) (by simp), h.fr.alloc o, h.new, h.ne⟩
theorem dvK_succ (key : ByteArray) (m : Option Nat) (n r : Nat) : mtK m (mtK m n (dvK key r)) (2 * macK key + 2) = mtK m n (dvK key (r + 1)) := by
  rw [mtK_add]
  unfold dvK
  rw [show (r + 1) * (2 * macK key + 2) = r * (2 * macK key + 2) + (2 * macK key + 2) from Nat.succ_mul _ _]
/-- Mac at one text that a slice of its own holds. -/
theorem MacL (W : World) (m : Option Nat) (n : Nat) (hn : n ≤ 700000) (key : ByteArray) (hk : key.size ≤ 1000) (l : List ByteArray) {cs : Array Value} (hcs : cs = (l.map .string).toArray) {q : Nat} (hq : q = l.length) (hl : 0 < l.length) (hl2 : l.length ≤ 1000) (hs : (catB l).size ≤ 100000) (hm : MtR W m n) (hb : ∀ b, m = some b → b < W.heap.size) :
    Calls Try.prog 24 #[mtP m, .string key, .slice (some ⟨W.heap.size, 0, none⟩) q q] (W.alloc (.cells cs 9))
      fun e w' => e = .returned (.string (macB key (catB l))) ∧ MtR w' m (mtK m n (2 * macK key + 2)) ∧ Fr m.toList W w' := by
  subst hcs hq
  have hf : Fr [] W (W.alloc (.cells (l.map .string).toArray 9)) := (Fr.refl _ _).alloc _
  refine (Mac_calls _ m n hn (hm.keep hf (by simp)) key hk ⟨W.heap.size, 0, none⟩ l.length l (RdV.new _ _ _ rfl (by simp)) (fun b h => by have := hb b h; show W.heap.size ≠ b; omega) (by simp) hl hl2 hs).mono ?_
  rintro e w' ⟨h1, h2, h3⟩
  exact ⟨h1, h2, (hf.mono (by simp)).trans h3 (fun i hi => .inl hi)⟩

set_option maxHeartbeats 4000000 in
set_option maxRecDepth 100000 in
theorem Derive_calls (w : World) (m : Option Nat) (n : Nat) (hn : n ≤ 100000) (hm : MtR w m n) (key salt : ByteArray) (hk : key.size ≤ 1000) (hs : salt.size ≤ 1000) (r : Nat) (hr : r ≤ 20) :
    Calls Try.prog 27 #[mtP m, .string key, .string salt, .int .i64 (r : Int)] w
      fun e w' => e = .returned (.string (deriveB key salt r)) ∧ MtR w' m (mtK m n (dvK key r)) ∧ Fr m.toList w w' := by
  have hk1 : macK key ≤ 1 := by unfold macK; split <;> omega
  obtain ⟨po, hpo⟩ : ∃ po, mtP m = .pointer po := ⟨_, rfl⟩
  by_cases h1 : r < 1
  · obtain rfl : r = 0 := by omega
    have hz := mtK_zero hm
    have hd : deriveB key salt 0 = ⟨#[]⟩ := rfl
    have hq : dvK key 0 = 0 := by rw [dvK, Nat.zero_mul]
    rw [hd, hq, hz]
    have HM := Lib.hid hm
    rw [hpo]
    clear hm hz hd hq hpo
    go_enter Try.func27, Try.ntmps27
    go_wp2_with fail
    go_ret
    exact ⟨rfl, HM.out, Fr.refl _ _⟩
  · have hlt := hm.lt
    have he : catB [salt, ⟨#[0, 0, 0, 1]⟩] = salt ++ dvFirst := by rw [catB_cons, catB_one]; rfl
    have hM0 := MacL w m n (by omega) key hk [salt, ⟨#[0, 0, 0, 1]⟩] (cs := #[.string salt, .string ⟨#[0, 0, 0, 1]⟩]) rfl (q := 2) rfl (by simp) (by simp) (by rw [he, ByteArray.size_append]; show _ + 4 ≤ _; omega) hm hlt
    rw [he, show macB key (salt ++ dvFirst) = dvU key salt 0 from rfl, show 2 * macK key + 2 = dvK key 1 from by rw [dvK, Nat.one_mul]] at hM0
    have hn1 : ∀ j, j ≤ 20 → mtK m n (dvK key j) ≤ 700000 := fun j hj => by
      have h1 := mtK_le m n (dvK key j)
      have h2 : dvK key j ≤ 20 * 4 := Nat.mul_le_mul hj (by omega)
      omega
    have hM1 : ∀ (W : World) (j : Nat), j < 20 → MtR W m (mtK m n (dvK key (j + 1))) → (∀ b, m = some b → b < W.heap.size) → Calls Try.prog 24 #[mtP m, .string key, .slice (some ⟨W.heap.size, 0, none⟩) 1 1] (W.alloc (.cells #[.string (dvU key salt j)] 9))
        fun e w' => e = .returned (.string (dvU key salt (j + 1))) ∧ MtR w' m (mtK m n (dvK key (j + 1 + 1))) ∧ Fr m.toList W w' := fun W j hj h hb => by
      have := MacL W m _ (hn1 (j + 1) (by omega)) key hk [dvU key salt j] (cs := #[.string (dvU key salt j)]) rfl (q := 1) rfl (by simp) (by simp) (by rw [catB_one, dvU_size]; decide) h hb
      rw [catB_one, dvK_succ] at this
      exact this
    have HRES : Hid (deriveB key salt r = lB (dvO key salt (r - 1))) := Lib.hid (if_neg h1)
    have HR1 : Hid (r - 1 + 1 = r) := Lib.hid (by omega)
    rw [hpo] at hM0 hM1 ⊢
    have HM0 := Lib.hid hM0
    have HM1 := Lib.hid hM1
    have HLT := Lib.hid hlt
    clear hM0 hM1 hlt he hpo hm hn1 hk1 hk hs
    go_enter Try.func27, Try.ntmps27
    go_wp2_with fail
    (with_reducible refine HM0.out.mono ?_)
    rintro e w1 ⟨rfl, hm1, hf1⟩
    obtain ⟨W2, cap, hcv, hbs, hf2⟩ := run_toBytes w1 (dvU key salt 0)
    have hg := hf1.size
    have h0 : DvS w W2 m (mtK m n (dvK key (0 + 1))) w1.heap.size cap (dvO key salt 0) := ⟨hbs, hm1.keep hf2 (by simp), hf1.then hf2, hg, HLT.out⟩
    have hbcap := hbs.cap
    have hu0 := dvU_size key salt 0
    generalize w1.heap.size = g at h0 hcv
    have H0 := Lib.hid h0
    clear hbs h0 hm1 hf1 hf2 hg HM0
    have hc32 : 32 ≤ cap := by omega
    rw [hu0] at hcv
    clear hbcap hu0
    go_wp2_with fail
    clear hcv
    have hr1 : (1 : Int) ≤ (r : Int) := by omega
    obtain ⟨R, hR⟩ : ∃ R : Nat, R = r - 1 := ⟨_, rfl⟩
    have hRi : (r : Int) - 1 = (R : Int) := by omega
    have hR20 : R < 20 := by omega
    rw [← hR] at HRES
    rw [hRi]
    have HRR : Hid (dvK key (R + 1) = dvK key r) := Lib.hid (by rw [hR, HR1.out])
    clear hR HR1 hRi hr1 h1 hr
    go_loopw [9, 11, 27] (fun v9 v11 v27 wr => ∃ j : Nat, v27 = .int .i64 j ∧ j ≤ R ∧ v9 = .string (dvU key salt j) ∧ Hid (DvS w wr m (mtK m n (dvK key (j + 1))) g cap (dvO key salt j))) (fun _ _ v27 _ => R - (intOf v27).toNat)
    case atStart => exact ⟨0, rfl, Nat.zero_le _, rfl, H0⟩
    case round =>
      clear H0
      obtain ⟨j, rfl, hj, rfl, H⟩ := hrel
      by_cases hlt : j < R
      · have hM := HM1.out wr j (by omega) H.out.mt (fun b hb => Nat.lt_of_lt_of_le (H.out.ne b hb) H.out.fr.size)
        have HM := Lib.hid hM
        have hlo := dvO_len key salt j
        have hu := dvU_size key salt (j + 1)
        have hul := dvU_len key salt (j + 1)
        have HO : Hid (xor2 (dvO key salt j) (dvU key salt (j + 1)).data.toList = dvO key salt (j + 1)) := Lib.hid rfl
        clear hM
        go_wp2_with fail
        (with_reducible refine HM.out.mono ?_)
        rintro e w3 ⟨rfl, hm3, hf3⟩
        have H3 := Lib.hid (H.out.mac hm3 hf3)
        clear hm3 hf3 H HM
        generalize dvO key salt j = a at H3 HO hlo
        generalize hUU : dvU key salt (j + 1) = U at hu hul HO ⊢
        have HUU := Lib.hid hUU
        clear hUU
        have hlen : a.length = U.data.toList.length := by rw [hlo, hul]
        have HL := Lib.hid (And.intro hlen hlo)
        have hu32 : (32 : Int) ≤ (U.size : Int) := by omega
        have hu32' : (U.size : Int) ≤ 32 := by omega
        clear hlen hul
        go_wp2_with fail
        go_loopw [11, 36] (fun v11 v36 wx => ∃ i : Nat, v36 = .int .i64 i ∧ i ≤ 32 ∧ Hid (DvS w wx m (mtK m n (dvK key (j + 1 + 1))) g cap (xor2K a U.data.toList i))) (fun _ v36 _ => 32 - (intOf v36).toNat)
        case atStart => exact ⟨0, rfl, Nat.zero_le _, Lib.hid (by rw [xor2K_zero]; exact H3.out)⟩
        case round =>
          clear H3
          obtain ⟨i, rfl, hi, H⟩ := hrel
          by_cases hli : i < 32
          · have hia : i < a.length := by rw [HL.out.2]; exact hli
            have hiu : i < U.size := by omega
            have hget := xor2K_get HL.out.1 i hia
            have hset := xor2K_set HL.out.1 i hia
            have hll := xor2K_len HL.out.1 i
            have hUi : (U.data.toList[i]'(by rw [Array.length_toList]; exact hiu)) = U[i] := rfl
            rw [hUi] at hset
            have hca := (a[i]).toNat_lt
            have hcu := (U[i]).toNat_lt
            have hx := u8_xor_nat (a[i]).toNat (U[i]).toNat hca hcu
            have hd : (UInt8.ofNat ((a[i]).toNat ^^^ (U[i]).toNat)).toNat = (a[i]).toNat ^^^ (U[i]).toNat := by rw [UInt8.toNat_ofNat']; exact Nat.mod_eq_of_lt (xor8 hca hcu)
            rw [← hd] at hx
            have hlb : i < (lB (xor2K a U.data.toList i)).size := by rw [lB_size, hll]; exact hia
            have c0 := H.out.bb.cell i hlb
            have hlg : (lB (xor2K a U.data.toList i))[i] = a[i] := by
              have h9 := hget
              rw [List.getElem?_eq_getElem (by rw [hll]; exact hia)] at h9
              injection h9
            rw [hlg] at c0
            have z0 := H.out.bb.frozen i hlb
            have HSET := Lib.hid (H.out.set i (by rw [hll]; exact hia) (UInt8.ofNat ((a[i]).toNat ^^^ (U[i]).toNat)))
            rw [hset] at HSET
            generalize UInt8.ofNat ((a[i]).toNat ^^^ (U[i]).toNat) = d at hx HSET
            generalize a[i] = ai at c0 hx hca
            have hi0 : (0 : Int) ≤ (i : Int) := by omega
            have hi1 : (i : Int) < 32 := by omega
            have hi2 : (i : Int) < U.size := by omega
            clear hget hset hll hUi hd hlb hlg hia
            go_wp2_with fail
            go_region
            all_goals
              go_wp2_with fail
              refine ⟨⟨i + 1, by go_num, by omega, Lib.hid HSET.out.drew⟩, by simp only [intOf]; omega⟩
          · obtain rfl : i = 32 := by omega
            have he : xor2K a U.data.toList 32 = dvO key salt (j + 1) := by
              have := xor2K_all HL.out.1
              rw [HL.out.2] at this
              rw [this, HO.out]
            rw [he] at H
            clear he hli hi
            go_wp2_with fail
            exact ⟨⟨j + 1, by go_num, by omega, by rw [HUU.out], H⟩, by simp only [intOf]; omega⟩
      · obtain rfl : j = R := by omega
        have hcv := run_bsString H.out.bb (n := 32) (c := cap) (by rw [lB_size, dvO_len])
        rw [← HRES.out] at hcv
        go_wp2_with fail
        go_ret
        refine ⟨rfl, ?_, H.out.fr⟩
        rw [← HRR.out]
        exact H.out.mt
end Go.Proofs.Ytlcfambhjclkiaa
