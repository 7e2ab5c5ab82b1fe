/-
  The document's disk: Do, whole; what the getters tell (told).
-/
import Derived.Test.YtdoaniimfhpjhaaRfJ
import Derived.Test.YtdoaniimfhpjhaaOpA
import Derived.Test.YtdoaniimfhpjhaaFsY
namespace Go.Proofs.Ytdoaniimfhpjhaa
open Go.RowKit
set_option linter.unusedVariables false
set_option linter.unusedSimpArgs false
theorem do_any {d : Dk} (hI : DkInv d) (o : HO) (A : Option Addr) (n c B0 : Nat) (hs0 : List HV) (hmap : hs0.map (·.1) = imgL d) (w : World) (hr : OwnFl w B0 A n c hs0) (hB : B0 ≤ w.heap.size) (hst : d.steps ≤ 4611686018427387904) (ho : OpOk w o) :
    Calls Try.prog 9 #[.agg #[.slice A n c, .int .i64 d.room, .int .i64 d.fuse, .bool d.down, .int .i64 d.steps, .int .i64 d.read], .agg (opcells o)] w (DoPost w B0 A hs0 (callD d o.1)) := by
  obtain ⟨⟨hb1, hb2⟩, ⟨hk1, hk2, hk3⟩, _, hn, hm⟩ := ho
  by_cases hk : 0 ≤ o.1.k ∧ o.1.k ≤ 7
  · exact do_mid hI o.1 hk A n c B0 hs0 hmap o.2.1.1 o.2.1.2 o.2.2.1 o.1.keep.length o.2.2.2 w hr hB hn hm hst hb1 (by omega)
  · exact do_low hI o.1 (by omega) A n c B0 hs0 hmap o.2.1.1 o.2.1.2 o.2.2.1 o.2.2.2 w hr hB hn hk1 hk2 hk3
end Go.Proofs.Ytdoaniimfhpjhaa
