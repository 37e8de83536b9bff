/- Slices of tokens. -/
import Derived.Test.YthkkpnlgjkdneaaTokE
namespace Go.Proofs.Ythkkpnlgjkdneaa
theorem slTok : SlT Try.prog 75 56 (.agg #[.int .i64 0, .string ⟨#[]⟩, .int .i64 0, .int .i64 0]) 4 40 := SlT.mk' Try.underlying75 (by kernel_rfl) rfl (by decide) (by decide)
end Go.Proofs.Ythkkpnlgjkdneaa
