/- The steps of the walk by 'wp_region_mild'. -/
import Derived.Test.YtembnjpflllpbaaMild2
namespace Go.Proofs.Ytembnjpflllpbaa
open Go.RowKit
set_option linter.unusedVariables false
set_option linter.unusedSimpArgs false

section
variable {P : Program} {ops : Array Oper} {w0 : World} {Q : Act → List Free → Prop} {k : Nat} {o : Oper} {rest : List Oper} {a : Act} {env : List Free}
/-- A slice just built: its block. -/
def SlF (cs : Array Value) (T : TypeId) (m : Nat) (v : Value) (W : World) : Prop := ∃ b, v = .slice (some ⟨b, 0, none⟩) m m ∧ W.heap[b]? = some (.cells cs T (0, 0))
theorem SlF.stable {cs : Array Value} {T : TypeId} {m : Nat} (v : Value) (W W' : World) (h : SlF cs T m v W) (hf : Fr [] W W') : SlF cs T m v W' := by
  obtain ⟨b, hv, hb⟩ := h
  exact ⟨b, hv, (hf.block b (lt_of_heap hb) (by simp)).trans hb⟩
/-- A new block: its number. -/
def PtF (cs : Array Value) (T : TypeId) (v : Value) (W : World) : Prop := ∃ b, v = .pointer (some ⟨b, 0, none⟩) ∧ W.heap[b]? = some (.cells cs T (0, 0))
theorem PtF.stable {cs : Array Value} {T : TypeId} (v : Value) (W W' : World) (h : PtF cs T v W) (hf : Fr [] W W') : PtF cs T v W' := by
  obtain ⟨b, hv, hb⟩ := h
  exact ⟨b, hv, (hf.block b (lt_of_heap hb) (by simp)).trans hb⟩

theorem mild_det0 {v : Value} (hF : (env.filter fun e => rds ops o e) = []) (h1 : ∀ W, Fr [] w0 W → ∀ K : Value → World → Prop, (∀ W', Fr [] W W' → K v W') → mildAt P ops o a W K)
    (h2 : mildL P ops w0 Q (k + 1) rest (a.put o.dst v) env) : mildL P ops w0 Q k (o :: rest) a env :=
  .inl ⟨v, fun W hW => by rw [hF]; exact h1 W hW _ fun W' hf => ⟨hf, rfl⟩, h2⟩
theorem mild_det1 {v : Value} {e : Free} (hF : (env.filter fun e => rds ops o e) = [e]) (h1 : ∀ W, Fr [] w0 W → ∀ u, e.fact u W → ∀ K : Value → World → Prop, (∀ W', Fr [] W W' → K v W') → mildAt P ops o (a.put e.dst u) W K)
    (h2 : mildL P ops w0 Q (k + 1) rest (a.put o.dst v) env) : mildL P ops w0 Q k (o :: rest) a env :=
  .inl ⟨v, fun W hW => by rw [hF]; exact fun u hu => h1 W hW u hu _ fun W' hf => ⟨hf, rfl⟩, h2⟩
theorem mild_free0 {φ : Value → World → Prop} (hst : ∀ v W W', φ v W → Fr [] W W' → φ v W') (hF : (env.filter fun e => rds ops o e) = []) (h1 : ∀ W, Fr [] w0 W → ∀ K : Value → World → Prop, (∀ u W', Fr [] W W' → φ u W' → K u W') → mildAt P ops o a W K)
    (h2 : mildL P ops w0 Q (k + 1) rest (a.put o.dst undef) (⟨k, o.dst, φ⟩ :: env)) : mildL P ops w0 Q k (o :: rest) a env :=
  .inr ⟨φ, hst, fun W hW => by rw [hF]; exact h1 W hW _ fun u W' hf hu => ⟨hf, hu⟩, h2⟩
theorem mild_slice {cs : Array Value} {T : TypeId} {m : Nat} (hF : (env.filter fun e => rds ops o e) = []) (h1 : ∀ W, Fr [] w0 W → ∀ K : Value → World → Prop, (∀ u W', Fr [] W W' → SlF cs T m u W' → K u W') → mildAt P ops o a W K)
    (h2 : mildL P ops w0 Q (k + 1) rest (a.put o.dst undef) (⟨k, o.dst, SlF cs T m⟩ :: env)) : mildL P ops w0 Q k (o :: rest) a env := mild_free0 SlF.stable hF h1 h2
theorem mild_ptr {cs : Array Value} {T : TypeId} (hF : (env.filter fun e => rds ops o e) = []) (h1 : ∀ W, Fr [] w0 W → ∀ K : Value → World → Prop, (∀ u W', Fr [] W W' → PtF cs T u W' → K u W') → mildAt P ops o a W K)
    (h2 : mildL P ops w0 Q (k + 1) rest (a.put o.dst undef) (⟨k, o.dst, PtF cs T⟩ :: env)) : mildL P ops w0 Q k (o :: rest) a env := mild_free0 PtF.stable hF h1 h2
theorem mild_nil (h : Q a env) : mildL P ops w0 Q k [] a env := h
theorem mild_call {f : FuncId} {args : Array Value} {W : World} {v : Value} {K : Value → World → Prop} (h : Calls P f args W fun e w' => e = .returned v ∧ Fr [] W w') (hK : ∀ W', Fr [] W W' → K v W') :
    Calls P f args W fun e w' => ∃ v, e = .returned v ∧ K v w' := h.mono fun _ _ ⟨he, hf⟩ => ⟨_, he, hK _ hf⟩
end

end Go.Proofs.Ytembnjpflllpbaa
