/- The contract of token.Encode. -/
import Derived.Test.YtbfpfmnkmpcgpaaDoorEnc
namespace Go.Proofs.YtbfpfmnkmpcgpaaDoor
open Go.RowKit
set_option linter.unusedVariables false
set_option linter.unusedSimpArgs false

theorem emitB_app (a : ByteArray) (v m : Nat) (l : List UInt8) : a ++ emitB v m ++ (⟨l.toArray⟩ : ByteArray) = a ++ (⟨(emitL v m ++ l).toArray⟩ : ByteArray) := by
  apply ByteArray.ext
  simp [emitB]
theorem emitB_size (v m : Nat) : (emitB v m).size = m / 5 := by
  show (emitL v m).toArray.size = _
  rw [List.size_toArray, emitL_length]

/-- Where the coding stands. -/
structure EncS (w0 w : World) (b pb pn : Nat) (r : List Nat) (v n : Nat) (t : ByteArray) : Prop where
  bld : Bld 37 5 w b r t
  vb : VarV 3 w pb (.int .i64 v)
  vn : VarV 3 w pn (.int .i64 n)
  fr : Fr [] w0 w
  new : ∀ k, k ∈ pb :: pn :: b :: r → w0.heap.size ≤ k
  h4 : pb ∉ b :: r
  h5 : pn ∉ b :: r
theorem EncS.step {w0 w w' : World} {b pb pn : Nat} {r r' : List Nat} {v n v' n' : Nat} {t t' : ByteArray} (h : EncS w0 w b pb pn r v n t) (hp : PutS w w' b pb pn r r' v' n' t') : EncS w0 w' b pb pn r' v' n' t' := by
  have hlt1 := h.vb.lt
  have hlt2 := h.vn.lt
  refine ⟨hp.bld, hp.vb, hp.vn, h.fr.trans hp.fr (fun k hk => .inr (h.new k hk)), ?_, ?_, ?_⟩
  · intro k hk
    simp only [List.mem_cons] at hk
    rcases hk with rfl | rfl | rfl | hk
    · exact h.new _ (by simp)
    · exact h.new _ (by simp)
    · exact h.new _ (by simp)
    · rcases hp.new k hk with h1 | h1
      · exact h.new _ (by simp [h1])
      · have := h.fr.size; omega
  · intro hm
    rcases List.mem_cons.1 hm with e | hm
    · exact h.h4 (by simp [e])
    · rcases hp.new _ hm with h1 | h1
      · exact h.h4 (by simp [h1])
      · omega
  · intro hm
    rcases List.mem_cons.1 hm with e | hm
    · exact h.h5 (by simp [e])
    · rcases hp.new _ hm with h1 | h1
      · exact h.h5 (by simp [h1])
      · omega

set_option maxHeartbeats 2000000 in
set_option maxRecDepth 100000 in
theorem Encode_calls (w : World) (s : ByteArray) (hs : s.size ≤ 1099511627776) :
    Calls Tryd.prog 12 #[.string s] w fun e w' => e = .returned (.string (encB s)) ∧ Fr [] w w' := by
  have hmf : ∀ (fn : Fn) (first cap : Array Value) (w : World), (Instr.makeFunc fn first cap).run Tryd.prog w = .ok (.func fn first cap) w := fun _ _ _ _ => rfl
  go_enter Tryd.func12, Tryd.ntmps12
  go_wp2_with fail
  have h0 : EncS w (((w.alloc (.cells #[.pointer none, .slice none 0 0] 37)).alloc (.cells #[.int .i64 0] 3)).alloc (.cells #[.int .i64 0] 3)) w.heap.size (w.heap.size + 1) (w.heap.size + 1 + 1) [] 0 0 ⟨#[]⟩ :=
    ⟨(Bld.new _ _ w rfl).keep (S := []) (((Fr.refl _ _).alloc _).alloc _) (by simp), (VarV.new _ _ _ (by simp)).keep (S := []) ((Fr.refl _ _).alloc _) (by simp), VarV.new _ _ _ (by simp), (((Fr.refl _ _).alloc _).alloc _).alloc _, by simp; omega, by simp, by simp; omega⟩
  generalize ((w.alloc (.cells #[.pointer none, .slice none 0 0] 37)).alloc (.cells #[.int .i64 0] 3)).alloc (.cells #[.int .i64 0] 3) = W0 at h0 ⊢
  have hne : w.heap.size + 1 ≠ w.heap.size + 1 + 1 := by omega
  generalize w.heap.size + 1 + 1 = pn at h0 hne ⊢
  generalize w.heap.size + 1 = pb at h0 hne ⊢
  generalize w.heap.size = b at h0 ⊢
  go_loopw [11] (fun v11 wr => ∃ (k v n : Nat) (t : ByteArray) (r : List Nat), v11 = .int .i64 k ∧ k ≤ s.size ∧ v < 32 ∧ n < 5 ∧ t.size ≤ 4 * k ∧ Hid (v < 2 ^ n) ∧ Hid (EncS w wr b pb pn r v n t ∧ t ++ ⟨(encL v n (s.data.toList.drop k)).toArray⟩ = encB s)) (fun v11 _ => s.size - (intOf v11).toNat)
  case atStart => exact ⟨0, 0, 0, ⟨#[]⟩, [], rfl, Nat.zero_le _, by decide, by decide, by decide, Lib.hid (by decide), h0, by rw [nil_bapp, List.drop_zero]; rfl⟩
  case round =>
    clear h0
    obtain ⟨k, v, n, t, r, rfl, hk, hv, hn, ht, HV, H⟩ := hrel
    by_cases hlt : k < s.size
    · have hdr : s.data.toList.drop k = s[k] :: s.data.toList.drop (k + 1) := by
        rw [List.drop_eq_getElem_cons (by rw [Array.length_toList]; exact hlt)]
        rfl
      generalize hbb : s[k] = c at hdr
      have hc := c.toNat_lt
      have HD := Lib.hid hdr
      clear hdr
      go_wp2_with fail
      refine (put_calls _ b pb pn r t v n c.toNat 8 rfl rfl (by decide) hv hn hc H.out.1.bld H.out.1.vb H.out.1.vn hne H.out.1.h4 H.out.1.h5 (by omega)).mono ?_
      rintro e w2 ⟨rfl, r2, hp⟩
      have h2 := H.out.1.step hp
      have hR : (v * 2 ^ 8 + c.toNat) % 2 ^ ((n + 8) % 5) < 2 ^ ((n + 8) % 5) := Nat.mod_lt _ (Nat.two_pow_pos _)
      have h16 : 2 ^ ((n + 8) % 5) ≤ 2 ^ 4 := Nat.pow_le_pow_right (by decide) (by omega)
      have hE : t ++ emitB (v * 2 ^ 8 + c.toNat) (n + 8) ++ ⟨(encL ((v * 2 ^ 8 + c.toNat) % 2 ^ ((n + 8) % 5)) ((n + 8) % 5) (s.data.toList.drop (k + 1))).toArray⟩ = encB s := by
        rw [← H.out.2, HD.out, encL, emitB_app]
      have hsz := emitB_size (v * 2 ^ 8 + c.toNat) (n + 8)
      have hts : (t ++ emitB (v * 2 ^ 8 + c.toNat) (n + 8)).size ≤ 4 * (k + 1) := by rw [ByteArray.size_append, hsz]; omega
      have H2 := Lib.hid (And.intro h2 hE)
      have HR := Lib.hid hR
      have hr32 : (v * 2 ^ 8 + c.toNat) % 2 ^ ((n + 8) % 5) < 32 := by omega
      clear h2 hE hR h16 hsz hp H HD HV
      generalize (v * 2 ^ 8 + c.toNat) % 2 ^ ((n + 8) % 5) = v' at H2 HR hr32
      generalize t ++ emitB (v * 2 ^ 8 + c.toNat) (n + 8) = t' at H2 hts
      go_wp2_with fail
      refine ⟨⟨k + 1, v', (n + 8) % 5, t', r2, by go_num, by omega, hr32, by omega, hts, HR, H2⟩, by simp only [intOf]; omega⟩
    · have hk' : k = s.size := by omega
      subst hk'
      have hE := H.out.2
      rw [List.drop_of_length_le (by rw [Array.length_toList]; exact Nat.le_refl _), encL] at hE
      have hc2 := H.out.1.vn.cell
      by_cases hn0 : 0 < n
      · rw [if_pos hn0] at hE
        have HE := Lib.hid hE
        clear hE
        obtain ⟨j, hj⟩ : ∃ j, j = 5 - n := ⟨_, rfl⟩
        have hji : (5 : Int) - (n : Int) = (j : Int) := by omega
        go_wp2_with fail
        refine (put_calls _ b pb pn r t v n 0 j rfl (by omega) (by omega) hv hn (Nat.two_pow_pos _) H.out.1.bld H.out.1.vb H.out.1.vn hne H.out.1.h4 H.out.1.h5 (by omega)).mono ?_
        rintro e w2 ⟨rfl, r2, hp⟩
        have h2 := H.out.1.step hp
        have hE2 : t ++ emitB (v * 2 ^ j + 0) (n + j) = encB s := by
          rw [← HE.out, hj, show n + (5 - n) = 5 from by omega]
          rfl
        rw [hE2] at h2
        clear hp H HE hE2
        go_wp2_with fail
        refine (String_calls _ bty_builder b r2 _ _ h2.bld).mono ?_
        rintro e w3 ⟨rfl, h3, hf3⟩
        have hF : Fr [] w w3 := h2.fr.trans hf3 (fun k hk => .inr (h2.new k (by simp [hk])))
        go_wp2_with fail
        go_ret
        exact ⟨rfl, hF⟩
      · rw [if_neg hn0] at hE
        have hE2 : t = encB s := by
          rw [← hE]
          exact (bapp_nil t).symm
        clear hE
        subst hE2
        go_wp2_with fail
        refine (String_calls _ bty_builder b r _ _ H.out.1.bld).mono ?_
        rintro e w3 ⟨rfl, h3, hf3⟩
        have hF : Fr [] w w3 := H.out.1.fr.trans hf3 (fun k hk => .inr (H.out.1.new k (by simp [hk])))
        go_wp2_with fail
        go_ret
        exact ⟨rfl, hF⟩

end Go.Proofs.YtbfpfmnkmpcgpaaDoor
