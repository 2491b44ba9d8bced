/- The reference's noughts and TextBits, walked. The reference's TextBits, walked: of a float below nought. FloatText and TextBits answer the same text. -/
import Derived.Test.YthlncdcfppehcaaDoorGRb3
import Derived.Test.YthlncdcfppehcaaDoorGFlt
import Derived.Test.YthlncdcfppehcaaDoorGDig
section
namespace Go.Proofs.YthlncdcfppehcaaDoor.rt
open Go.RowKit mem fl big sh uw pg
set_option linter.unusedVariables false

theorem rep_snoc (i : Nat) : List.replicate i 48 ++ [48] = List.replicate (i + 1) 48 := by
  rw [List.replicate_succ']
theorem bit63_hi (a : Nat) (h : a < 9223372036854775808) : bits .and .u64 ((a + 9223372036854775808 : Nat) : Int) 9223372036854775808 = 9223372036854775808 := by
  have h52 : (2 : Nat) ^ 63 = 9223372036854775808 := by decide
  have h1 := u64_and_nat (a + 9223372036854775808) 9223372036854775808 (by omega) (by decide)
  rw [show ((a + 9223372036854775808) &&& 9223372036854775808) = ((a + 9223372036854775808) &&& 2 ^ 63) by rw [h52], nat_bit 63, h52] at h1
  have e : (a + 9223372036854775808) / 9223372036854775808 = 1 := by omega
  rw [e] at h1
  exact h1

end Go.Proofs.YthlncdcfppehcaaDoor.rt
end
section
namespace Go.Proofs.YthlncdcfppehcaaDoor.rt
open Go.RowKit mem fl big sh uw pg
set_option linter.unusedVariables false

end Go.Proofs.YthlncdcfppehcaaDoor.rt
end
section
namespace Go.Proofs.YthlncdcfppehcaaDoor.rt
open Go.RowKit mem fl big sh uw pg
set_option linter.unusedVariables false

theorem tt_same {s : Bool} {a : Nat} {w1 w2 w1' w2' : World} {e1 e2 : Ending} (h1 : TtPost s a w1 e1 w1') (h2 : TtPost s a w2 e2 w2') : e1 = e2 := by
  obtain ⟨_, h1⟩ := h1
  obtain ⟨_, h2⟩ := h2
  rcases h1 with ⟨a1, rfl⟩ | ⟨a1, rfl⟩ | ⟨a1, b1, q, y, c1, d1, _, rfl⟩
  · rcases h2 with ⟨a2, rfl⟩ | ⟨a2, rfl⟩ | ⟨a2, b2, r, z, c2, d2, _, rfl⟩
    · rfl
    · omega
    · omega
  · rcases h2 with ⟨a2, rfl⟩ | ⟨a2, rfl⟩ | ⟨a2, b2, r, z, c2, d2, _, rfl⟩
    · omega
    · rfl
    · omega
  · rcases h2 with ⟨a2, rfl⟩ | ⟨a2, rfl⟩ | ⟨a2, b2, r, z, c2, d2, _, rfl⟩
    · omega
    · omega
    · obtain ⟨rfl, rfl⟩ := c1.uniq c2 d1 d2
      rfl
/-- a text is answered -/
theorem tt_string {s : Bool} {a : Nat} {w w' : World} {e : Ending} (h : TtPost s a w e w') : ∃ S : ByteArray, e = .returned (.string S) ∧ Below w.heap.size w w' := by
  obtain ⟨hb, h⟩ := h
  rcases h with ⟨_, rfl⟩ | ⟨_, rfl⟩ | ⟨_, _, q, y, _, _, _, rfl⟩
  · exact ⟨_, rfl, hb⟩
  · exact ⟨_, rfl, hb⟩
  · exact ⟨_, rfl, hb⟩
end Go.Proofs.YthlncdcfppehcaaDoor.rt
end
