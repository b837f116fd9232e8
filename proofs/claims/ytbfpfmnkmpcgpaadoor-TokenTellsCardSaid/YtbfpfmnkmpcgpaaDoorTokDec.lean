/- What the decoding of digits computes: plain Lean; it is the coding's other way. -/
import Derived.Test.YtbfpfmnkmpcgpaaDoorTokPure
namespace Go.Proofs.YtbfpfmnkmpcgpaaDoor
set_option linter.unusedVariables false
set_option linter.unusedSimpArgs false

/-- A digit's value. -/
def digV (c : UInt8) : Option Nat := if 97 ≤ c.toNat ∧ c.toNat ≤ 122 then some (c.toNat - 97) else if 50 ≤ c.toNat ∧ c.toNat ≤ 55 then some (c.toNat - 24) else none
theorem digV_digC (v : Nat) : digV (digC v) = some (v % 32) := by
  have h : ∀ q (hq : q < 32), digV (digs[q]'(by have : digs.size = 32 := rfl; omega)) = some q := by decide
  exact h (v % 32) (Nat.mod_lt _ (by decide))
theorem digs_val : ∀ q (hq : q < 32), (digs[q]'(by have : digs.size = 32 := rfl; omega)).toNat = if q < 26 then q + 97 else q + 24 := by decide
theorem digV_some {c : UInt8} {d : Nat} (h : digV c = some d) : d < 32 ∧ digC d = c := by
  have hd : d < 32 := by
    have hc := c.toNat_lt
    unfold digV at h
    split at h
    · injection h with h; omega
    · split at h
      · injection h with h; omega
      · cases h
  refine ⟨hd, ?_⟩
  apply UInt8.toNat_inj.1
  have : digC d = digs[d]'(by have : digs.size = 32 := rfl; omega) := by
    unfold digC
    congr 1
    exact Nat.mod_eq_of_lt hd
  rw [this, digs_val d hd]
  unfold digV at h
  split at h
  · injection h with h; split <;> omega
  · split at h
    · injection h with h; split <;> omega
    · cases h
theorem digC_congr {a b : Nat} (h : a % 32 = b % 32) : digC a = digC b := by
  unfold digC
  congr 1

/-- The decoding from a state on: v, of n bits, is what waits. -/
def decG : Nat → Nat → List UInt8 → Option (List UInt8)
  | v, n, [] => if v = 0 ∧ n < 5 then some [] else none
  | v, n, c :: l =>
    match digV c with
    | none => none
    | some d => if 8 ≤ n + 5 then (decG ((v * 32 + d) % 2 ^ (n + 5 - 8)) (n + 5 - 8) l).map (UInt8.ofNat ((v * 32 + d) / 2 ^ (n + 5 - 8)) :: ·) else decG (v * 32 + d) (n + 5) l
theorem decG_big {v n d : Nat} {c : UInt8} {l : List UInt8} (h : digV c = some d) (hn : 3 ≤ n) : decG v n (c :: l) = (decG ((v * 32 + d) % 2 ^ (n - 3)) (n - 3) l).map (UInt8.ofNat ((v * 32 + d) / 2 ^ (n - 3)) :: ·) := by
  rw [decG, h]
  simp only
  rw [if_pos (by omega), show n + 5 - 8 = n - 3 from by omega]
theorem decG_small {v n d : Nat} {c : UInt8} {l : List UInt8} (h : digV c = some d) (hn : n < 3) : decG v n (c :: l) = decG (v * 32 + d) (n + 5) l := by
  rw [decG, h]
  simp only
  rw [if_neg (by omega)]
theorem emit2 {V m : Nat} (h1 : 10 ≤ m) (h2 : m < 15) : emitL V m = [digC (V / 2 ^ (m - 5)), digC (V / 2 ^ (m - 10))] := by
  rw [emitL_step (by omega), emitL_step (by omega), emitL_end (by omega), show m - 5 - 5 = m - 10 from by omega]
theorem emit1 {V m : Nat} (h1 : 5 ≤ m) (h2 : m < 10) : emitL V m = [digC (V / 2 ^ (m - 5))] := by
  rw [emitL_step (by omega), emitL_end (by omega)]
theorem u8_of (c : UInt8) {x : Nat} (h : x = c.toNat) : UInt8.ofNat x = c := by
  apply UInt8.toNat_inj.1
  rw [UInt8.toNat_ofNat', h]
  exact Nat.mod_eq_of_lt c.toNat_lt

/-- What was coded is decoded: at each state of the coder, the decoder has the byte's first bits. -/
theorem dec_enc : ∀ (l : List UInt8), decG 0 0 (encL 0 0 l) = some l ∧ ∀ (m b v : Nat) (c : UInt8), 0 < m → m < 5 → b < 2 ^ m → v < 2 ^ (8 - m) → v * 2 ^ m + b = c.toNat → decG v (8 - m) (encL b m l) = some (c :: l)
  | [] => by
    refine ⟨by rw [encL, if_neg (by decide), decG, if_pos (by decide)], ?_⟩
    intro m b v c h0 h5 hb hv hc
    have hm : m = 1 ∨ m = 2 ∨ m = 3 ∨ m = 4 := by (try simp only [Nat.reduceAdd, Nat.reduceMod, Nat.reduceSub, Nat.reducePow]); omega
    rw [encL, if_pos h0, emit1 (by decide) (by decide)]
    rcases hm with rfl | rfl | rfl | rfl
    all_goals
      rw [decG_big (digV_digC _) (by decide), decG, if_pos (by constructor <;> ((try simp only [Nat.reduceAdd, Nat.reduceMod, Nat.reduceSub, Nat.reducePow]); omega))]
      simp only [Option.map_some]
      congr 2
      apply u8_of
      rw [← hc]
      (try simp only [Nat.reduceAdd, Nat.reduceMod, Nat.reduceSub, Nat.reducePow])
      omega
  | x :: l => by
    have hx := x.toNat_lt
    obtain ⟨ih0, ih⟩ := dec_enc l
    refine ⟨?_, ?_⟩
    · rw [encL, emit1 (by decide) (by decide)]
      rw [List.singleton_append, decG_small (digV_digC _) (by decide)]
      have := ih 3 ((0 * 256 + x.toNat) % 2 ^ ((0 + 8) % 5)) (0 * 32 + (0 * 256 + x.toNat) / 2 ^ (0 + 8 - 5) % 32) x (by decide) (by decide) (by (try simp only [Nat.reduceAdd, Nat.reduceMod, Nat.reduceSub, Nat.reducePow]); omega) (by (try simp only [Nat.reduceAdd, Nat.reduceMod, Nat.reduceSub, Nat.reducePow]); omega) (by (try simp only [Nat.reduceAdd, Nat.reduceMod, Nat.reduceSub, Nat.reducePow]); omega)
      exact this
    · intro m b v c h0 h5 hb hv hc
      have hm : m = 1 ∨ m = 2 ∨ m = 3 ∨ m = 4 := by (try simp only [Nat.reduceAdd, Nat.reduceMod, Nat.reduceSub, Nat.reducePow]); omega
      rcases hm with rfl | rfl | rfl | rfl
      · rw [encL, emit1 (by decide) (by decide), List.singleton_append, decG_big (digV_digC _) (by decide)]
        have := ih 4 ((b * 256 + x.toNat) % 2 ^ ((1 + 8) % 5)) ((v * 32 + (b * 256 + x.toNat) / 2 ^ (1 + 8 - 5) % 32) % 2 ^ (8 - 1 - 3)) x (by decide) (by decide) (by (try simp only [Nat.reduceAdd, Nat.reduceMod, Nat.reduceSub, Nat.reducePow]); omega) (by (try simp only [Nat.reduceAdd, Nat.reduceMod, Nat.reduceSub, Nat.reducePow]); omega) (by (try simp only [Nat.reduceAdd, Nat.reduceMod, Nat.reduceSub, Nat.reducePow]); omega)
        rw [show 8 - 4 = 8 - 1 - 3 from rfl] at this
        rw [show (1 + 8) % 5 = 4 from rfl] at this ⊢
        rw [this]
        simp only [Option.map_some]
        congr 2
        apply u8_of
        (try simp only [Nat.reduceAdd, Nat.reduceMod, Nat.reduceSub, Nat.reducePow])
        omega
      · rw [encL, emit2 (by decide) (by decide), List.cons_append, List.singleton_append, decG_big (digV_digC _) (by decide), decG_big (digV_digC _) (by decide)]
        have e : ((v * 32 + (b * 256 + x.toNat) / 2 ^ (2 + 8 - 5) % 32) % 2 ^ (8 - 2 - 3) * 32 + (b * 256 + x.toNat) / 2 ^ (2 + 8 - 10) % 32) % 2 ^ (8 - 2 - 3 - 3) = 0 := by (try simp only [Nat.reduceAdd, Nat.reduceMod, Nat.reduceSub, Nat.reducePow]); omega
        have e2 : (b * 256 + x.toNat) % 2 ^ ((2 + 8) % 5) = 0 := by (try simp only [Nat.reduceAdd, Nat.reduceMod, Nat.reduceSub, Nat.reducePow]); omega
        rw [e, e2, show 8 - 2 - 3 - 3 = 0 from rfl, show (2 + 8) % 5 = 0 from rfl, ih0]
        simp only [Option.map_some]
        congr 2
        · apply u8_of; (try simp only [Nat.reduceAdd, Nat.reduceMod, Nat.reduceSub, Nat.reducePow]); omega
        · congr 1; apply u8_of; (try simp only [Nat.reduceAdd, Nat.reduceMod, Nat.reduceSub, Nat.reducePow]); omega
      · rw [encL, emit2 (by decide) (by decide), List.cons_append, List.singleton_append, decG_big (digV_digC _) (by decide), decG_small (digV_digC _) (by decide)]
        have := ih 1 ((b * 256 + x.toNat) % 2 ^ ((3 + 8) % 5)) ((v * 32 + (b * 256 + x.toNat) / 2 ^ (3 + 8 - 5) % 32) % 2 ^ (8 - 3 - 3) * 32 + (b * 256 + x.toNat) / 2 ^ (3 + 8 - 10) % 32) x (by decide) (by decide) (by (try simp only [Nat.reduceAdd, Nat.reduceMod, Nat.reduceSub, Nat.reducePow]); omega) (by (try simp only [Nat.reduceAdd, Nat.reduceMod, Nat.reduceSub, Nat.reducePow]); omega) (by (try simp only [Nat.reduceAdd, Nat.reduceMod, Nat.reduceSub, Nat.reducePow]); omega)
        rw [show 8 - 1 = 8 - 3 - 3 + 5 from rfl] at this
        rw [show (3 + 8) % 5 = 1 from rfl] at this ⊢
        rw [this]
        simp only [Option.map_some]
        congr 2
        apply u8_of
        (try simp only [Nat.reduceAdd, Nat.reduceMod, Nat.reduceSub, Nat.reducePow])
        omega
      · rw [encL, emit2 (by decide) (by decide), List.cons_append, List.singleton_append, decG_big (digV_digC _) (by decide), decG_small (digV_digC _) (by decide)]
        have := ih 2 ((b * 256 + x.toNat) % 2 ^ ((4 + 8) % 5)) ((v * 32 + (b * 256 + x.toNat) / 2 ^ (4 + 8 - 5) % 32) % 2 ^ (8 - 4 - 3) * 32 + (b * 256 + x.toNat) / 2 ^ (4 + 8 - 10) % 32) x (by decide) (by decide) (by (try simp only [Nat.reduceAdd, Nat.reduceMod, Nat.reduceSub, Nat.reducePow]); omega) (by (try simp only [Nat.reduceAdd, Nat.reduceMod, Nat.reduceSub, Nat.reducePow]); omega) (by (try simp only [Nat.reduceAdd, Nat.reduceMod, Nat.reduceSub, Nat.reducePow]); omega)
        rw [show 8 - 2 = 8 - 4 - 3 + 5 from rfl] at this
        rw [show (4 + 8) % 5 = 2 from rfl] at this ⊢
        rw [this]
        simp only [Option.map_some]
        congr 2
        apply u8_of
        (try simp only [Nat.reduceAdd, Nat.reduceMod, Nat.reduceSub, Nat.reducePow])
        omega

/-- How many bits of the coder wait, where n of the decoder do. -/
def waitM (n : Nat) : Nat := (10 - n) % 5
/-- Whatever is decoded is coded so. -/
theorem enc_dec : ∀ (x : List UInt8) (v n b : Nat) (t : List UInt8), n < 8 → v < 2 ^ n → b < 2 ^ waitM n → decG v n x = some t → encL b (waitM n) t = emitL (b * 2 ^ n + v) (waitM n + n) ++ x
  | [], v, n, b, t, hn, hv, hb, h => by
    rw [decG] at h
    split at h
    case isFalse => cases h
    case isTrue hc =>
      obtain ⟨rfl, h5⟩ := hc
      injection h with h
      subst h
      rw [encL, List.append_nil]
      have hq : n = 0 ∨ n = 1 ∨ n = 2 ∨ n = 3 ∨ n = 4 := by omega
      rcases hq with rfl | rfl | rfl | rfl | rfl
      · rw [show waitM 0 = 0 from rfl, if_neg (by decide), emitL_end (by decide)]
      · rw [show waitM 1 = 4 from rfl, if_pos (by decide)]; rfl
      · rw [show waitM 2 = 3 from rfl, if_pos (by decide)]; rfl
      · rw [show waitM 3 = 2 from rfl, if_pos (by decide)]; rfl
      · rw [show waitM 4 = 1 from rfl, if_pos (by decide)]; rfl
  | c :: x, v, n, b, t, hn, hv, hb, h => by
    cases hd : digV c with
    | none => rw [decG, hd] at h; cases h
    | some d =>
      obtain ⟨hd32, hdc⟩ := digV_some hd
      by_cases h3 : n < 3
      · rw [decG_small hd h3] at h
        have hq : n = 0 ∨ n = 1 ∨ n = 2 := by omega
        rcases hq with rfl | rfl | rfl
        · have := enc_dec x (v * 32 + d) (0 + 5) b t (by decide) (by omega) hb h
          rw [show waitM (0 + 5) = 0 from rfl, emit1 (by decide) (by decide)] at this
          rw [show waitM 0 = 0 from rfl, this, emitL_end (by decide), ← hdc, List.nil_append, List.singleton_append]
          congr 1
          apply digC_congr
          have : b < 1 := hb
          (try simp only [Nat.reduceAdd, Nat.reduceMod, Nat.reduceSub, Nat.reducePow])
          omega
        · have := enc_dec x (v * 32 + d) (1 + 5) b t (by decide) (by omega) hb h
          rw [show waitM (1 + 5) = 4 from rfl, emit2 (by decide) (by decide)] at this
          rw [show waitM 1 = 4 from rfl, this, emit1 (by decide) (by decide), ← hdc, List.singleton_append, List.cons_append, List.singleton_append]
          have : b < 16 := hb
          congr 1
          · apply digC_congr; (try simp only [Nat.reduceAdd, Nat.reduceMod, Nat.reduceSub, Nat.reducePow]); omega
          · congr 1; apply digC_congr; (try simp only [Nat.reduceAdd, Nat.reduceMod, Nat.reduceSub, Nat.reducePow]); omega
        · have := enc_dec x (v * 32 + d) (2 + 5) b t (by decide) (by omega) hb h
          rw [show waitM (2 + 5) = 3 from rfl, emit2 (by decide) (by decide)] at this
          rw [show waitM 2 = 3 from rfl, this, emit1 (by decide) (by decide), ← hdc, List.singleton_append, List.cons_append, List.singleton_append]
          have : b < 8 := hb
          congr 1
          · apply digC_congr; (try simp only [Nat.reduceAdd, Nat.reduceMod, Nat.reduceSub, Nat.reducePow]); omega
          · congr 1; apply digC_congr; (try simp only [Nat.reduceAdd, Nat.reduceMod, Nat.reduceSub, Nat.reducePow]); omega
      · rw [decG_big hd (by omega)] at h
        cases hr : decG ((v * 32 + d) % 2 ^ (n - 3)) (n - 3) x with
        | none => rw [hr] at h; cases h
        | some u =>
          rw [hr, Option.map_some] at h
          injection h with h
          subst h
          have hq : n = 3 ∨ n = 4 ∨ n = 5 ∨ n = 6 ∨ n = 7 := by omega
          rcases hq with rfl | rfl | rfl | rfl | rfl
          · have hk : (UInt8.ofNat ((v * 32 + d) / 2 ^ (3 - 3))).toNat = v * 32 + d := by rw [UInt8.toNat_ofNat']; (try simp only [Nat.reduceAdd, Nat.reduceMod, Nat.reduceSub, Nat.reducePow]); omega
            have hb' : b < 4 := hb
            have := enc_dec x _ (3 - 3) ((b * 256 + (v * 32 + d)) % 2 ^ 0) u (by decide) (by (try simp only [Nat.reduceAdd, Nat.reduceMod, Nat.reduceSub, Nat.reducePow]); omega) (by show _ < 1; omega) hr
            rw [show waitM (3 - 3) = 0 from rfl] at this
            rw [show waitM 3 = 2 from rfl, encL, hk, show (2 + 8) % 5 = 0 from rfl, this, emitL_end (m := 0 + (3 - 3)) (by decide), emit2 (by decide) (by decide), emit1 (by decide) (by decide), ← hdc]
            simp only [List.nil_append, List.cons_append]
            congr 1
            · apply digC_congr; (try simp only [Nat.reduceAdd, Nat.reduceMod, Nat.reduceSub, Nat.reducePow]); omega
            · congr 1; apply digC_congr; (try simp only [Nat.reduceAdd, Nat.reduceMod, Nat.reduceSub, Nat.reducePow]); omega
          · have hk : (UInt8.ofNat ((v * 32 + d) / 2 ^ (4 - 3))).toNat = (v * 32 + d) / 2 := by rw [UInt8.toNat_ofNat']; (try simp only [Nat.reduceAdd, Nat.reduceMod, Nat.reduceSub, Nat.reducePow]); omega
            have hb' : b < 2 := hb
            have := enc_dec x _ (4 - 3) ((b * 256 + (v * 32 + d) / 2) % 2 ^ 4) u (by decide) (by (try simp only [Nat.reduceAdd, Nat.reduceMod, Nat.reduceSub, Nat.reducePow]); omega) (by show _ < 16; omega) hr
            rw [show waitM (4 - 3) = 4 from rfl] at this
            rw [show waitM 4 = 1 from rfl, encL, hk, show (1 + 8) % 5 = 4 from rfl, this, emit1 (m := 1 + 8) (by decide) (by decide), emit1 (m := 4 + (4 - 3)) (by decide) (by decide), emit1 (m := 1 + 4) (by decide) (by decide), ← hdc]
            simp only [List.nil_append, List.cons_append]
            congr 1
            · apply digC_congr; (try simp only [Nat.reduceAdd, Nat.reduceMod, Nat.reduceSub, Nat.reducePow]); omega
            · congr 1; apply digC_congr; (try simp only [Nat.reduceAdd, Nat.reduceMod, Nat.reduceSub, Nat.reducePow]); omega
          · have hk : (UInt8.ofNat ((v * 32 + d) / 2 ^ (5 - 3))).toNat = (v * 32 + d) / 4 := by rw [UInt8.toNat_ofNat']; (try simp only [Nat.reduceAdd, Nat.reduceMod, Nat.reduceSub, Nat.reducePow]); omega
            have hb' : b < 1 := hb
            have := enc_dec x _ (5 - 3) ((b * 256 + (v * 32 + d) / 4) % 2 ^ 3) u (by decide) (by (try simp only [Nat.reduceAdd, Nat.reduceMod, Nat.reduceSub, Nat.reducePow]); omega) (by show _ < 8; omega) hr
            rw [show waitM (5 - 3) = 3 from rfl] at this
            rw [show waitM 5 = 0 from rfl, encL, hk, show (0 + 8) % 5 = 3 from rfl, this, emit1 (m := 0 + 8) (by decide) (by decide), emit1 (m := 3 + (5 - 3)) (by decide) (by decide), emit1 (m := 0 + 5) (by decide) (by decide), ← hdc]
            simp only [List.nil_append, List.cons_append]
            congr 1
            · apply digC_congr; (try simp only [Nat.reduceAdd, Nat.reduceMod, Nat.reduceSub, Nat.reducePow]); omega
            · congr 1; apply digC_congr; (try simp only [Nat.reduceAdd, Nat.reduceMod, Nat.reduceSub, Nat.reducePow]); omega
          · have hk : (UInt8.ofNat ((v * 32 + d) / 2 ^ (6 - 3))).toNat = (v * 32 + d) / 8 := by rw [UInt8.toNat_ofNat']; (try simp only [Nat.reduceAdd, Nat.reduceMod, Nat.reduceSub, Nat.reducePow]); omega
            have hb' : b < 16 := hb
            have := enc_dec x _ (6 - 3) ((b * 256 + (v * 32 + d) / 8) % 2 ^ 2) u (by decide) (by (try simp only [Nat.reduceAdd, Nat.reduceMod, Nat.reduceSub, Nat.reducePow]); omega) (by show _ < 4; omega) hr
            rw [show waitM (6 - 3) = 2 from rfl] at this
            rw [show waitM 6 = 4 from rfl, encL, hk, show (4 + 8) % 5 = 2 from rfl, this, emit2 (m := 4 + 8) (by decide) (by decide), emit1 (m := 2 + (6 - 3)) (by decide) (by decide), emit2 (m := 4 + 6) (by decide) (by decide), ← hdc]
            simp only [List.nil_append, List.cons_append]
            congr 1
            · apply digC_congr; (try simp only [Nat.reduceAdd, Nat.reduceMod, Nat.reduceSub, Nat.reducePow]); omega
            · congr 1
              · apply digC_congr; (try simp only [Nat.reduceAdd, Nat.reduceMod, Nat.reduceSub, Nat.reducePow]); omega
              · congr 1; apply digC_congr; (try simp only [Nat.reduceAdd, Nat.reduceMod, Nat.reduceSub, Nat.reducePow]); omega
          · have hk : (UInt8.ofNat ((v * 32 + d) / 2 ^ (7 - 3))).toNat = (v * 32 + d) / 16 := by rw [UInt8.toNat_ofNat']; (try simp only [Nat.reduceAdd, Nat.reduceMod, Nat.reduceSub, Nat.reducePow]); omega
            have hb' : b < 8 := hb
            have := enc_dec x _ (7 - 3) ((b * 256 + (v * 32 + d) / 16) % 2 ^ 1) u (by decide) (by (try simp only [Nat.reduceAdd, Nat.reduceMod, Nat.reduceSub, Nat.reducePow]); omega) (by show _ < 2; omega) hr
            rw [show waitM (7 - 3) = 1 from rfl] at this
            rw [show waitM 7 = 3 from rfl, encL, hk, show (3 + 8) % 5 = 1 from rfl, this, emit2 (m := 3 + 8) (by decide) (by decide), emit1 (m := 1 + (7 - 3)) (by decide) (by decide), emit2 (m := 3 + 7) (by decide) (by decide), ← hdc]
            simp only [List.nil_append, List.cons_append]
            congr 1
            · apply digC_congr; (try simp only [Nat.reduceAdd, Nat.reduceMod, Nat.reduceSub, Nat.reducePow]); omega
            · congr 1
              · apply digC_congr; (try simp only [Nat.reduceAdd, Nat.reduceMod, Nat.reduceSub, Nat.reducePow]); omega
              · congr 1; apply digC_congr; (try simp only [Nat.reduceAdd, Nat.reduceMod, Nat.reduceSub, Nat.reducePow]); omega

/-- The text of digits, if it is one's. -/
def decB (x : ByteArray) : Option ByteArray := (decG 0 0 x.data.toList).map fun l => ⟨l.toArray⟩
theorem decB_enc (s : ByteArray) : decB (encB s) = some s := by
  rw [decB, show (encB s).data.toList = encL 0 0 s.data.toList from rfl, (dec_enc _).1]
  rfl
theorem encB_dec {x t : ByteArray} (h : decB x = some t) : encB t = x := by
  unfold decB at h
  cases hd : decG 0 0 x.data.toList with
  | none => rw [hd] at h; cases h
  | some l =>
    rw [hd, Option.map_some] at h
    injection h with h
    subst h
    have := enc_dec _ 0 0 0 l (by decide) (by decide) (by decide) hd
    rw [show waitM 0 = 0 from rfl, emitL_end (by decide), List.nil_append] at this
    apply ByteArray.ext
    apply Array.toList_inj.1
    exact this
theorem decB_iff (x t : ByteArray) : decB x = some t ↔ encB t = x := ⟨encB_dec, fun h => by rw [← h]; exact decB_enc t⟩
end Go.Proofs.YtbfpfmnkmpcgpaaDoor
