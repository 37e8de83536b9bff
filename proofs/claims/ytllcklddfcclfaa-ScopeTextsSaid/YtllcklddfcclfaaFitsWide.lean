/- Room for an append past 2^47 bytes, by the sharper bound on growth. -/
import Derived.Test.YtllcklddfcclfaaBase
import Derived.Deep.DeepAppendWide
namespace Go.Proofs.Ytllcklddfcclfaa
theorem fits_wide {need bytes : Nat} (h : (need + need / 4 + 192) * bytes ≤ 281474976710656) (hm : need ≤ maxLen) : Fits need bytes := ⟨hm, fun _ ho => growslice_fits_wide ho h⟩
/-- Frames of 32 bytes, one for each Op of 24. -/
theorem fits_frames {n : Nat} (h : n * 24 ≤ 140737488351232) : Fits (n + 2) 32 := fits_wide (by omega) (by unfold maxLen; omega)
/-- The same for fewer. -/
theorem fits_frames_le {n m : Nat} (h : n * 24 ≤ 140737488351232) (hm : m ≤ n + 2) : Fits m 32 := fits_wide (by omega) (by unfold maxLen; omega)
end Go.Proofs.Ytllcklddfcclfaa
