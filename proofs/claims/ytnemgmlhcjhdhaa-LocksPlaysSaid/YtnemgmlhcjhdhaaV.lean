/- Ask, whole; Leave. -/
import Derived.Test.YtnemgmlhcjhdhaaQ
import Derived.Test.YtnemgmlhcjhdhaaU
namespace Go.Proofs.Ytnemgmlhcjhdhaa
open Go.RowKit
theorem tab_ask (p : Nat) (L : List Li) (o : Int) (k : ByteArray) (m : Int) (w : World) (D : List Nat) (h : TabA p L w D) (hok : LOk L) (hb : Sm 400 L) :
    Calls Try.prog 20 #[.pointer (some ⟨p, 0, none⟩), .int .i64 o, .string k, .int .i64 m] w (AskPost w D p (askL L o k m)) := by
  unfold askL
  split
  · rename_i hbad
    exact tab_ask_bad p L o k m w D h hbad
  · rename_i hg
    simp only [not_or] at hg
    obtain ⟨g0, g1, g2⟩ := hg
    have g2 : modeM m = true := by simpa using g2
    split
    · rename_i hh
      obtain ⟨hi, _⟩ := (hasL_iff hok.s k).1 hh
      simp only [List.getElem?_eq_getElem hi, Option.getD_some]
      by_cases hC : 0 < ofH (L[posL L k]'hi).hs o
      · exact tab_ask_up p L o k m w D h hok hb g0 g1 g2 hh hi hC
      · exact tab_ask_plain p L o k m w D h hok hb g0 g1 g2 hh hi hC
    · rename_i hh
      exact tab_ask_new p L o k m w D h hok.s ⟨by have := hb.1; omega, fun l hl => by have := hb.2 l hl; omega⟩ g0 g1 g2 (by simpa using hh)
end Go.Proofs.Ytnemgmlhcjhdhaa
