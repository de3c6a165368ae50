/- What the first reference's calls of any size compute: sums, differences, products, shifts, comparisons, bits. Conditions: lists of limbs below 2^64, of lengths that a slice has. -/
import Derived.Test.YtalkmbmhmbnadaaDoorQR1
import Derived.Test.YtalkmbmhmbnadaaDoorQNat2
namespace Go.Proofs.YtalkmbmhmbnadaaDoor.R1
open Go.RowKit Go.Proofs.YtalkmbmhmbnadaaDoor.Lib Go.Proofs.YtalkmbmhmbnadaaDoor.LibB Go.Proofs.YtalkmbmhmbnadaaDoor.F Go.Proofs.YtalkmbmhmbnadaaDoor.Nat1 Go.Proofs.YtalkmbmhmbnadaaDoor.Nat2 Go.Proofs.YtalkmbmhmbnadaaDoor.Bits
open Go.Proofs.YtalkmbmhmbnadaaDoorA (rd ln ln_eq mx mn shl shr wr wr_eq)
set_option linter.unusedVariables false
set_option linter.unusedSimpArgs false
theorem rd32_over {l : List Int} {i : Nat} (h : l.length ≤ i) : rd l (i : Int) = 0 := by
  rw [rd_nat, List.getD_eq_getElem?_getD, List.getElem?_eq_none h]; rfl
theorem v32_take_over {l : List Int} {i : Nat} (h : l.length ≤ i) : v32 (l.take i) = v32 l := by rw [List.take_of_length_le h]
theorem nlt {a b : Nat} (h : a < b) : (a : Int) < (b : Int) := by omega
theorem n0 (a : Nat) : (0 : Int) ≤ (a : Int) := by omega
theorem nnlt {a b : Nat} (h : ¬ a < b) : ¬ (a : Int) < (b : Int) := by omega
theorem wadd {a b c : Nat} (h : a + b = c) (hc : c < 18446744073709551616) : IntKind.u64.wrap ((a : Int) + (b : Int)) = (c : Int) := by rw [IntKind.wrap_u64]; omega
theorem wsub {z s r : Nat} (h : r + s = z) (hr : r < 18446744073709551616) : IntKind.u64.wrap ((z : Int) - (s : Int)) = (r : Int) := by rw [IntKind.wrap_u64]; omega
theorem wone {i n : Nat} (h : i < n) (hn : n ≤ 9223372036854775807) : wrap64 ((i : Int) + 1) = ((i + 1 : Nat) : Int) := by unfold wrap64; omega
theorem wjoin {i j n : Nat} (h : i + j < n) (hn : n ≤ 9223372036854775807) : wrap64 ((i : Int) + (j : Int)) = ((i + j : Nat) : Int) := by unfold wrap64; omega
theorem high (n : Nat) : (n : Int) / 4294967296 = ((n / 4294967296 : Nat) : Int) := by omega
theorem modlt (n : Nat) : ((n % 4294967296 : Nat) : Int) < 4294967296 := by omega
theorem lin1 {A Y X r q c p k : Nat} (h1 : A + Y = X + c) (h2 : r + (c + q) = p + k) : A + r + (Y + q) = X + p + k := by omega
theorem lin2 {P' P Ho Hr Hc HK HM S T : Nat} (h1 : P' + Ho = P + Hr) (h2 : P + Hc = S + T) (h3 : Hr + HK = HM + Ho + Hc) : P' + HK = S + (T + HM) := by omega
theorem lin3 {A X Y HC r k p q : Nat} (h1 : A + HC = X + Y) (h2 : r + k = HC + p + q) : A + r + k = X + p + (Y + q) := by omega
theorem c_zero {A b a h c : Nat} (h1 : A < h) (hle : b ≤ a) (hv : A + b = a + h * c) : c = 0 := by
  rcases Nat.eq_zero_or_pos c with h2 | h2
  · exact h2
  · have := Nat.le_mul_of_pos_right h h2
    omega
end Go.Proofs.YtalkmbmhmbnadaaDoor.R1
