/- Own text E27 of this claim: see the text that holds the theorem. -/
import Derived.Test.YtninikfblhoieaaGreatDoorE25
import Derived.Test.YtninikfblhoieaaGreatDoorE26
set_option linter.all false
set_option maxRecDepth 100000
namespace Go.Av
open Go Go.Proofs

variable {L c W M : Nat} {ps rf : List Int} {c0 : Core} {g g0 : SG} {k : Nat}
theorem SameI.self (h : SameI L c ps rf c0 g g0) (hc : coreOf g = coreOf g0) : SameI L c ps rf c0 g g := by
 have hn : g.n = g0.n := congrArg Core.n hc
 have hm : g.m = g0.m := congrArg Core.m hc
 have ht : g.t = g0.t := congrArg Core.t hc
 have ha : g.a = g0.a := congrArg Core.a hc
 have es : stG g = stG g0 := by unfold stG; rw [ht, hm, hn, ha]
 refine ⟨⟨h.last.ok, h.last.ok, by rw [es]; exact h.last.r0, by rw [es, hn]; exact h.last.kept, .inl ⟨rfl, rfl⟩⟩, h.ep, h.er, by rw [hc, hn]; exact h.core, by rw [hn]; exact h.pass, by rw [hn]; exact h.kn, by rw [hn, hm, ht]; exact h.kn1, by rw [hn]; exact h.dl⟩
theorem EndI.core {g g1 : SG} (h : EndI L c ps rf c0 g) (h1 : SameI L c ps rf c0 g g1) : coreOf g = coreOf g1 := h1.coreEq h.up
theorem SameI.fin (h : SameI L c ps rf c0 g g0) : (recG g).2 = 0 ∧ (runG (recG g).1 1000).2.2 = 211 ∧ EndI L (c + 1000) ps rf c0 (runG (recG g).1 1000).1 := by
 obtain ⟨r1, r2, r3, r4, r5⟩ := h.recover
 have hs := r5.self r2
 have hw := hs.last.ok.nw
 have hL := hs.last.ok.L60
 have := SameI.ends 1000 c _ hs r3 r4 (by omega)
 exact ⟨r1, this.1, this.2⟩
end Go.Av
