/- Laws of joining texts. -/
import Derived.Test.YtembnjpflllpbaaBase
namespace Go.Proofs.Ytembnjpflllpbaa

theorem bapp_nil (s : ByteArray) : s ++ (⟨#[]⟩ : ByteArray) = s := by
  apply ByteArray.ext
  simp
theorem nil_bapp (s : ByteArray) : (⟨#[]⟩ : ByteArray) ++ s = s := by
  apply ByteArray.ext
  simp
theorem bapp_assoc (a b c : ByteArray) : a ++ b ++ c = a ++ (b ++ c) := by
  apply ByteArray.ext
  simp

end Go.Proofs.Ytembnjpflllpbaa
