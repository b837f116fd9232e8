/- Contracts of token.Encode and its inner function. -/
import Derived.Test.YtbfpfmnkmpcgpaaDoorProg
import Derived.Test.YtbfpfmnkmpcgpaaDoorBld
import Derived.Test.YtbfpfmnkmpcgpaaDoorVar
import Derived.Test.YtbfpfmnkmpcgpaaDoorTokPure
import Derived.Test.YtbfpfmnkmpcgpaaDoorApp
import Derived.Lib.Hide
namespace Go.Proofs.YtbfpfmnkmpcgpaaDoor
open Go.RowKit
set_option linter.unusedVariables false
set_option linter.unusedSimpArgs false

def emitB (v m : Nat) : ByteArray := ⟨(emitL v m).toArray⟩
theorem emitB_end {v m : Nat} (h : m < 5) : emitB v m = ⟨#[]⟩ := by rw [emitB, emitL_end h]
theorem emitB_step {v m : Nat} (h : 5 ≤ m) : emitB v m = bOf (digC (v / 2 ^ (m - 5))).toNat ++ emitB v (m - 5) := by
  rw [emitB, emitL_step h]
  apply ByteArray.ext
  simp [bOf, emitB]

/-- 'bits<<by | more'. -/
theorem or_join (b m k : Nat) (hk : k ≤ 8) (hb : b < 32) (hm : m < 2 ^ k) : bits BinOp.or IntKind.i64 (wrap64 ((b : Int) * 2 ^ k)) (m : Int) = ((b * 2 ^ k + m : Nat) : Int) := by
  have h1 : 2 ^ k ≤ 2 ^ 8 := Nat.pow_le_pow_right (by decide) hk
  have h2 : b * 2 ^ k ≤ 32 * 2 ^ 8 := Nat.mul_le_mul (by omega) h1
  have e : (b : Int) * 2 ^ k = ((b * 2 ^ k : Nat) : Int) := by simp
  have e2 : IntKind.i64.wrap ((b * 2 ^ k : Nat) : Int) = ((b * 2 ^ k : Nat) : Int) := IntWalk.i64_in _ ⟨by omega, by omega⟩
  rw [e, ← IntWalk.i64_left, e2, i64_or_nat _ _ (by omega) (by omega)]
  congr 1
  exact nat_join k _ _ (Nat.mul_mod_left _ _) hm

theorem u8_le (x : UInt8) : (x.toNat : Int) ≤ 255 := by have := x.toNat_lt; omega
theorem bty_builder : BTy 37 := ⟨by kernel_rfl, by decide⟩

/-- Where the inner function stands: what it wrote, and has to write. -/
structure PutS (w0 w : World) (b pb pn : Nat) (r0 r : List Nat) (v j : Nat) (t : ByteArray) : Prop where
  bld : Bld 37 5 w b r t
  vb : VarV 3 w pb (.int .i64 v)
  vn : VarV 3 w pn (.int .i64 j)
  fr : Fr (pb :: pn :: b :: r0) w0 w
  new : ∀ k, k ∈ r → k ∈ r0 ∨ w0.heap.size ≤ k

set_option maxHeartbeats 2000000 in
set_option maxRecDepth 100000 in
theorem put_calls (w : World) (b pb pn : Nat) (r : List Nat) (s : ByteArray) (v n more by' : Nat) {mi bi : Int} (hmi : mi = more) (hbi : bi = by') (hby : by' ≤ 8) (hv : v < 32) (hn : n < 5) (hmore : more < 2 ^ by')
    (h : Bld 37 5 w b r s) (h1 : VarV 3 w pb (.int .i64 v)) (h2 : VarV 3 w pn (.int .i64 n)) (h3 : pb ≠ pn) (h4 : pb ∉ b :: r) (h5 : pn ∉ b :: r) (hlen : s.size ≤ 140737488000000) :
    Calls Tryd.prog 25 #[.int .i64 mi, .int .i64 bi, .pointer (some ⟨pb, 0, none⟩), .pointer (some ⟨pn, 0, none⟩), .pointer (some ⟨b, 0, none⟩)] w fun e w' => e = .returned (.tuple #[]) ∧ ∃ r', PutS w w' b pb pn r r' ((v * 2 ^ by' + more) % 2 ^ ((n + by') % 5)) ((n + by') % 5) (s ++ emitB (v * 2 ^ by' + more) (n + by')) := by
  subst hmi hbi
  have hor := or_join v more by' hby hv hmore
  have hv3 : v * 2 ^ by' + more < 131072 * 32 := by
    have h1 : 2 ^ by' ≤ 2 ^ 8 := Nat.pow_le_pow_right (by decide) (by omega)
    have h2 : v * 2 ^ by' ≤ 31 * 2 ^ 8 := Nat.mul_le_mul (by omega) h1
    omega
  generalize hvv : v * 2 ^ by' + more = V at hor hv3 ⊢
  obtain ⟨N, hN, hNn⟩ : ∃ N : Nat, (n : Int) + (by' : Int) = (N : Int) ∧ n + by' = N := ⟨n + by', by omega, rfl⟩
  have hN12 : N ≤ 12 := by omega
  rw [hNn]
  clear hvv hmore
  have hc1 := h1.cell
  have hc2 := h2.cell
  have hz1 := h1.frozen 0
  have hz2 := h2.frozen 0
  have hS : ∀ W, W = ((w.setCell ⟨pb, 0, none⟩ (.int .i64 (V : Int))).setCell ⟨pn, 0, none⟩ (.int .i64 (N : Int))).drew → PutS w W b pb pn r r V N s := by
    intro W hW
    subst hW
    have hf : Fr (pb :: pn :: b :: r) w ((w.setCell ⟨pb, 0, none⟩ (.int .i64 (V : Int))).setCell ⟨pn, 0, none⟩ (.int .i64 (N : Int))) := ((Fr.refl _ _).setCell (.inl (by simp)) _).setCell (.inl (by simp)) _
    have hf2 : Fr [pb, pn] w ((w.setCell ⟨pb, 0, none⟩ (.int .i64 (V : Int))).setCell ⟨pn, 0, none⟩ (.int .i64 (N : Int))) := ((Fr.refl _ _).setCell (.inl (by simp)) _).setCell (.inl (by simp)) _
    refine ⟨?_, ?_, ?_, hf.drew, fun k hk => .inl hk⟩
    · exact h.keep hf2.drew (fun k hk => by
        have e1 : k ≠ pb := fun e => h4 (e ▸ hk)
        have e2 : k ≠ pn := fun e => h5 (e ▸ hk)
        simp [e1, e2])
    · exact ((h1.set _).beside (fun e => h3 e.symm) _).drew
    · exact ((h2.beside h3 (.int .i64 (V : Int))).set (.int .i64 (N : Int))).drew
  have HS := Lib.hid hS
  have hlt : pb < w.heap.size := h1.lt
  have hltn : pn < w.heap.size := h2.lt
  clear hS
  go_enter Tryd.func25, Tryd.ntmps25
  go_wp2_with fail
  go_region
  clear hor hc1 hc2 hz1 hz2 h h1 h2
  generalize hW : ((w.setCell ⟨pb, 0, none⟩ (.int .i64 (V : Int))).setCell ⟨pn, 0, none⟩ (.int .i64 (N : Int))).drew = W
  have hS0 := Lib.hid (HS.out W hW.symm)
  clear HS hW hN
  go_wp2_with fail
  go_loopw [] (fun wr => ∃ (j : Nat) (t : ByteArray) (r' : List Nat), j % 5 = N % 5 ∧ j ≤ 12 ∧ t.size + j ≤ s.size + 12 ∧ Hid (PutS w wr b pb pn r r' V j t ∧ t ++ emitB V j = s ++ emitB V N)) (fun wr => match wr.cell? ⟨pn, 0, none⟩ with | some v => (intOf v).toNat | none => 0)
  case atStart => exact ⟨N, s, r, rfl, by omega, by omega, hS0.out, rfl⟩
  case round =>
    clear hS0
    obtain ⟨j, t, r', hj, hj2, hts, H⟩ := hrel
    have hc1 := H.out.1.vb.cell
    have hc2 := H.out.1.vn.cell
    have hz2 := H.out.1.vn.frozen 0
    by_cases h5j : 5 ≤ j
    · obtain ⟨i, rfl⟩ : ∃ i, j = i + 5 := ⟨j - 5, by omega⟩
      have hq : bits BinOp.and IntKind.i64 ((V : Int) / 2 ^ i) 31 = ((V / 2 ^ i % 32 : Nat) : Int) := by
        have e : (V : Int) / 2 ^ i = ((V / 2 ^ i : Nat) : Int) := by simp
        have h0 := Nat.div_le_self V (2 ^ i)
        rw [e]
        have := i64_mask (V / 2 ^ i) 5 (by omega) (by decide)
        exact this
      have hq32 : V / 2 ^ i % 32 < 32 := Nat.mod_lt _ (by decide)
      have hqd : ∀ q (hq : V / 2 ^ i % 32 = q) (h : q < digs.size), digC (V / 2 ^ i) = digs[q] := by
        intro q hq h
        subst hq
        rfl
      generalize hqq : V / 2 ^ i % 32 = q at hq hq32
      have HQ := Lib.hid (hqd q hqq hq32)
      clear hqd hqq
      have hc1' : (wr.setCell ⟨pn, 0, none⟩ (.int .i64 (i : Int))).cell? ⟨pb, 0, none⟩ = some (.int .i64 V) := (H.out.1.vb.beside (fun e => h3 e.symm) _).cell
      go_wp2_with fail
      have hP : ∀ W, W = wr.setCell ⟨pn, 0, none⟩ (.int .i64 (i : Int)) → PutS w W b pb pn r r' V i t := by
        intro W hW
        subst hW
        have hf : Fr [pn] wr (wr.setCell ⟨pn, 0, none⟩ (.int .i64 (i : Int))) := (Fr.refl _ _).setCell (.inl (by simp)) _
        have hpn : pn ∉ b :: r' := fun hm => by
          rcases List.mem_cons.1 hm with e | hm
          · exact h5 (by simp [e])
          · rcases H.out.1.new _ hm with h | h
            · exact h5 (by simp [h])
            · omega
        exact ⟨H.out.1.bld.keep hf (fun k hk => by simp; rintro rfl; exact hpn hk), H.out.1.vb.beside (fun e => h3 e.symm) _, H.out.1.vn.set _, H.out.1.fr.trans hf (fun k hk => .inl (by simp at hk; simp [hk])), H.out.1.new⟩
      have hP1 := hP _ rfl
      clear hP
      generalize wr.setCell ⟨pn, 0, none⟩ (.int .i64 (i : Int)) = W at hP1 ⊢
      refine (WriteByte_calls _ bty_builder b r' t _ _ (by omega) (u8_le _) hP1.bld (by omega)).mono ?_
      rintro e w2 ⟨rfl, r2, h2, hf2, hn2⟩
      have hP2 : PutS w w2 b pb pn r r2 V i (t ++ bOf (digC (V / 2 ^ i)).toNat) := by
        have hpn : pn ∉ b :: r' := fun hm => by
          rcases List.mem_cons.1 hm with e | hm
          · exact h5 (by simp [e])
          · rcases H.out.1.new _ hm with h | h
            · exact h5 (by simp [h])
            · omega
        have hpb : pb ∉ b :: r' := fun hm => by
          rcases List.mem_cons.1 hm with e | hm
          · exact h4 (by simp [e])
          · rcases H.out.1.new _ hm with h | h
            · exact h4 (by simp [h])
            · omega
        refine ⟨?_, hP1.vb.keep hf2 hpb, hP1.vn.keep hf2 hpn, hP1.fr.trans hf2 ?_, ?_⟩
        · rw [HQ.out]
          exact h2
        · intro k hk
          rcases List.mem_cons.1 hk with rfl | hk
          · exact .inl (by simp)
          · rcases hP1.new k hk with h | h
            · exact .inl (by simp [h])
            · exact .inr h
        · intro k hk
          rcases hn2 k hk with h | h
          · exact hP1.new k h
          · exact .inr (by have := hP1.fr.size; omega)
      have hT : t ++ bOf (digC (V / 2 ^ i)).toNat ++ emitB V i = s ++ emitB V N := by
        rw [← H.out.2, emitB_step (show 5 ≤ i + 5 by omega), show i + 5 - 5 = i from by omega, bapp_assoc]
      have hcn := hP2.vn.cell
      have HP := Lib.hid hP2
      have HT := Lib.hid hT
      have hc2' := hc2
      clear h2 hf2 hn2 hP1 hP2 hT H HQ hc1 hc2 hz2 hc1' hq
      go_wp2_with fail
      refine ⟨⟨i, _, r2, by omega, by omega, by rw [ByteArray.size_append, bOf_size]; omega, HP.out, HT.out⟩, ?_⟩
      · have hcn' : w2.cell? ⟨pn, 0, none⟩ = some (.int .i64 i) := hcn
        have h0 := hc2'
        simp only [hcn', h0, intOf]
        omega
    · have hj5 : j = N % 5 := by omega
      have hfin : t = s ++ emitB V N := by rw [← H.out.2, emitB_end (by omega), bapp_nil]
      have HFIN := Lib.hid hfin
      have HJ := Lib.hid hj5
      clear hfin hj5
      have hj4 : j = 0 ∨ j = 1 ∨ j = 2 ∨ j = 3 ∨ j = 4 := by omega
      have hV : V < 9223372036854775808 := by omega
      obtain ⟨R, hR⟩ : ∃ R, V % 2 ^ j = R := ⟨_, rfl⟩
      have hend : ∀ W, W = (wr.setCell ⟨pb, 0, none⟩ (.int .i64 (R : Int))).drew → PutS w W b pb pn r r' R j t := by
        intro W hW
        subst hW
        have hf : Fr [pb] wr (wr.setCell ⟨pb, 0, none⟩ (.int .i64 (R : Int))).drew := ((Fr.refl _ _).setCell (.inl (by simp)) _).drew
        have hpb : pb ∉ b :: r' := fun hm => by
          rcases List.mem_cons.1 hm with e | hm
          · exact h4 (by simp [e])
          · rcases H.out.1.new _ hm with h | h
            · exact h4 (by simp [h])
            · omega
        exact ⟨H.out.1.bld.keep hf (fun k hk => by simp; rintro rfl; exact hpb hk), (H.out.1.vb.set _).drew, (H.out.1.vn.beside h3 _).drew, H.out.1.fr.trans hf (fun k hk => .inl (by simp at hk; simp [hk])), H.out.1.new⟩
      have HE := Lib.hid hend
      have hz1 := H.out.1.vb.frozen 0
      clear H hend
      have hmask : ∀ (l : Int), l = ((2 ^ j - 1 : Nat) : Int) → bits .and .i64 (V : Int) l = (R : Int) := by
        intro l hl
        rw [hl, ← hR]
        exact i64_mask V j hV (by omega)
      have hres : ∀ W, PutS w W b pb pn r r' R j t → ∃ r', PutS w W b pb pn r r' (V % 2 ^ (N % 5)) (N % 5) (s ++ emitB V N) := by
        intro W hW
        refine ⟨r', ?_⟩
        rw [← HJ.out, hR, ← HFIN.out]
        exact hW
      have HRES := Lib.hid hres
      have HMASK := Lib.hid hmask
      clear hres hmask hR HFIN HJ hj hts
      rcases hj4 with rfl | rfl | rfl | rfl | rfl
      · have hm := HMASK.out 0 rfl
        clear HMASK
        go_wp2_with fail
        go_region
        go_end0
        exact ⟨rfl, HRES.out _ (HE.out _ rfl)⟩
      · have hm := HMASK.out 1 rfl
        clear HMASK
        go_wp2_with fail
        go_region
        go_end0
        exact ⟨rfl, HRES.out _ (HE.out _ rfl)⟩
      · have hm := HMASK.out 3 rfl
        clear HMASK
        go_wp2_with fail
        go_region
        go_end0
        exact ⟨rfl, HRES.out _ (HE.out _ rfl)⟩
      · have hm := HMASK.out 7 rfl
        clear HMASK
        go_wp2_with fail
        go_region
        go_end0
        exact ⟨rfl, HRES.out _ (HE.out _ rfl)⟩
      · have hm := HMASK.out 15 rfl
        clear HMASK
        go_wp2_with fail
        go_region
        go_end0
        exact ⟨rfl, HRES.out _ (HE.out _ rfl)⟩

end Go.Proofs.YtbfpfmnkmpcgpaaDoor
