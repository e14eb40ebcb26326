/- The plain law of KeyinputModes. -/
import Derived.Test.YtpilpchijmappaaDoorH12
namespace Go.Proofs.YtpilpchijmappaaDoor

def arrowL : List (List UInt8) := [[85, 112], [68, 111, 119, 110], [82, 105, 103, 104, 116], [76, 101, 102, 116], [72, 111, 109, 101], [69, 110, 100]]
theorem app_names : ∀ n ∈ keyNames, ∀ c a s app nl : Bool, decide (encName app nl n c a s = encName (!app) nl n c a s) = !(decide (n ∈ arrowL) && (!s && !a && !c)) := by decide +kernel
theorem nl_names : ∀ n ∈ keyNames, ∀ c a s app nl : Bool, decide (encName app nl n c a s = encName app (!nl) n c a s) = !decide (n = nEnter) := by decide +kernel

theorem enc_eq_iff {k : Key} (h : keyErr k = 0) (a1 n1 a2 n2 : Bool) : encT a1 n1 k = encT a2 n2 k ↔ keyEnc a1 n1 k = keyEnc a2 n2 k := by
  unfold encT
  rw [if_pos h, if_pos h]
  constructor
  · intro h; simpa using congrArg (fun b : ByteArray => b.data.toList) h
  · intro h; rw [h]
/-- Application changes the encoding of the arrows, Home and End, and of no other key. -/
theorem modes_app {k : Key} (h : keyErr k = 0) (app nl : Bool) : decide (encT app nl k = encT (!app) nl k) = !(decide (k.nm ∈ arrowL) && (!k.shift && !k.alt && !k.control)) := by
  rw [show decide (encT app nl k = encT (!app) nl k) = decide (keyEnc app nl k = keyEnc (!app) nl k) from decide_eq_decide.2 (enc_eq_iff h _ _ _ _)]
  by_cases g0 : k.nm = []
  · simp only [keyEnc_char g0, g0]
    simp [arrowL]
  · simp only [keyEnc_name g0]
    exact app_names _ (keyErr_ok_name h g0) _ _ _ _ _
theorem modes_nl {k : Key} (h : keyErr k = 0) (app nl : Bool) : decide (encT app nl k = encT app (!nl) k) = !decide (k.nm = nEnter) := by
  rw [show decide (encT app nl k = encT app (!nl) k) = decide (keyEnc app nl k = keyEnc app (!nl) k) from decide_eq_decide.2 (enc_eq_iff h _ _ _ _)]
  by_cases g0 : k.nm = []
  · simp only [keyEnc_char g0, g0]
    simp [nEnter]
  · simp only [keyEnc_name g0]
    exact nl_names _ (keyErr_ok_name h g0) _ _ _ _ _
end Go.Proofs.YtpilpchijmappaaDoor
