/- The table's calls beside other things; do. -/
import Derived.Test.YtnemgmlhcjhdhaaAE
namespace Go.Proofs.Ytnemgmlhcjhdhaa
open Go.RowKit
section
variable {w0 w : World} {D0 : List Nat} {p : Nat} {L L' : List Li} {r : List Asn} [Stables r] {o m x : Int} {k : ByteArray}
theorem Mem.head {w' : World} {A : Asn} [Stable A] (h : Mem w0 D0 w (A :: r)) {Q : Ending → Prop} {P : Program} {f : Nat} {args : Array Value} {B : Ending → List Asn}
    (hc : ∀ D, A w D → Calls P f args w fun e w' => Q e ∧ Mem w D w' (B e)) : Calls P f args w fun e w' => Q e ∧ Mem w0 D0 w' (B e ++ r) := by
  obtain ⟨D, hA, kk⟩ := Mem.focus [] h
  refine (hc D hA).mono ?_
  rintro e w' ⟨hq, hm⟩
  obtain ⟨D', h1, h2⟩ := hm.out
  exact ⟨hq, kk _ w' D' h1 h2⟩
theorem mem_task (h : Mem w0 D0 w (TabA p L :: r)) (ok : LOk L) (hb : Sm 400 L) (e : askL L o k m = (x, L')) :
    Calls Try.prog 20 #[.pointer (some ⟨p, 0, none⟩), .int .i64 o, .string k, .int .i64 m] w fun e w' => e = .returned (.int .i64 x) ∧ Mem w0 D0 w' (TabA p L' :: r) := by
  obtain ⟨D, hA, kk⟩ := Mem.focus [] h
  refine (tab_ask p L o k m w D hA ok hb).mono ?_
  rw [e]
  rintro e w' ⟨rfl, hm⟩
  obtain ⟨D', h1, h2⟩ := hm.out
  exact ⟨rfl, kk _ w' D' h1 h2⟩
theorem mem_tleave (h : Mem w0 D0 w (TabA p L :: r)) (ok : LOk L) (hb : Sm 400 L) (o : Int) :
    Calls Try.prog 19 #[.pointer (some ⟨p, 0, none⟩), .int .i64 o] w fun e w' => ∃ a c, e = .returned (.slice a (riseI (leaveL L o).1).length c) ∧ Mem w0 D0 w' (RowI a c (riseI (leaveL L o).1) :: TabA p (leaveL L o).2 :: r) := by
  obtain ⟨D, hA, kk⟩ := Mem.focus [] h
  refine (tab_leave p L o w D hA ok hb).mono ?_
  rintro e w' ⟨a, c, rfl, hm⟩
  obtain ⟨D', h1, h2⟩ := hm.out
  exact ⟨a, c, rfl, kk _ w' D' h1 h2⟩
theorem mem_tholds (h : Mem w0 D0 w (TabA p L :: r)) (ok : LOk L) (hb : Sm 400 L) (o : Int) (k : ByteArray) :
    Calls Try.prog 15 #[.pointer (some ⟨p, 0, none⟩), .int .i64 o, .string k] w fun e w' => e = .returned (.int .i64 (ofH (lineL L k).hs o)) ∧ Mem w0 D0 w' (TabA p L :: r) := by
  obtain ⟨D, hA⟩ := Mem.get [] h
  exact (tab_holds p L o k w D hA ok.s (by have := hb.1; omega)).mono fun e w' ⟨he, hb⟩ => ⟨he, h.below hb⟩
theorem mem_twaits (h : Mem w0 D0 w (TabA p L :: r)) (ok : LOk L) (hb : Sm 400 L) (o : Int) (k : ByteArray) :
    Calls Try.prog 14 #[.pointer (some ⟨p, 0, none⟩), .int .i64 o, .string k] w fun e w' => e = .returned (.int .i64 (ofH (lineL L k).qs o)) ∧ Mem w0 D0 w' (TabA p L :: r) := by
  obtain ⟨D, hA⟩ := Mem.get [] h
  exact (tab_waits p L o k w D hA ok.s (by have := hb.1; omega)).mono fun e w' ⟨he, hb⟩ => ⟨he, h.below hb⟩
theorem Sm.mono {N M : Nat} {L : List Li} (h : Sm N L) (hNM : N ≤ M) : Sm M L := ⟨by have := h.1; omega, fun l hl => by have := h.2 l hl; omega⟩
theorem mem_tholders (h : Mem w0 D0 w (TabA p L :: r)) (ok : LOk L) (hb : Sm 400 L) (k : ByteArray) :
    Calls Try.prog 16 #[.pointer (some ⟨p, 0, none⟩), .string k] w fun e w' => ∃ s, e = .returned (slv s) ∧ Mem w0 D0 w' (RowH s (lineL L k).hs :: TabA p L :: r) := by
  obtain ⟨D, hA⟩ := Mem.get [] h
  exact (tab_holders p L k w D hA ok.s (hb.mono (by decide))).mono fun e w' ⟨s, he, hr, hb, hf⟩ => ⟨s, he, h.new hb (As := [RowH s (lineL L k).hs]) (all_one ⟨rfl, hr⟩) hf⟩
theorem mem_tqueue (h : Mem w0 D0 w (TabA p L :: r)) (ok : LOk L) (hb : Sm 400 L) (k : ByteArray) :
    Calls Try.prog 22 #[.pointer (some ⟨p, 0, none⟩), .string k] w fun e w' => ∃ s, e = .returned (slv s) ∧ Mem w0 D0 w' (RowH s (lineL L k).qs :: TabA p L :: r) := by
  obtain ⟨D, hA⟩ := Mem.get [] h
  exact (tab_queue p L k w D hA ok.s (hb.mono (by decide))).mono fun e w' ⟨s, he, hr, hb, hf⟩ => ⟨s, he, h.new hb (As := [RowH s (lineL L k).qs]) (all_one ⟨rfl, hr⟩) hf⟩
theorem mem_tblockers (h : Mem w0 D0 w (TabA p L :: r)) (hb : Sm 64 L) (o : Int) :
    Calls Try.prog 25 #[.pointer (some ⟨p, 0, none⟩), .int .i64 o] w fun e w' => ∃ a c, e = .returned (.slice a (riseI (blkL L o)).length c) ∧ Mem w0 D0 w' (RowI a c (riseI (blkL L o)) :: TabA p L :: r) := by
  obtain ⟨D, hA⟩ := Mem.get [] h
  exact (tab_blockers p L o w D hA hb).mono fun e w' ⟨a, c, he, hm⟩ => ⟨a, c, he, h.join hm⟩
theorem mem_tlines (h : Mem w0 D0 w (TabA p L :: r)) (hb : Sm 400 L) :
    Calls Try.prog 12 #[.pointer (some ⟨p, 0, none⟩)] w fun e w' => ∃ b d X, e = .returned (.slice b L.length d) ∧ X.map (·.key) = L.map (·.key) ∧ Mem w0 D0 w' (RowA 34 3 b L.length d (lnFlat X) :: (rowsOf X L ++ (TabA p L :: r))) := by
  obtain ⟨D, hA⟩ := Mem.get [] h
  exact (tab_lines p L w D hA (hb.mono (by decide))).mono fun e w' ⟨b, d, X, he, hk, hm⟩ => ⟨b, d, X, he, hk, h.join hm⟩
end
/-- what an act does. -/
def doT (L : List Li) (a : Ac) : List Li := if a.leave then (leaveL L a.owner).2 else (askL L a.owner a.key a.mode).2
theorem LOk.doT {L : List Li} (h : LOk L) (a : Ac) : LOk (doT L a) := by
  unfold Go.Proofs.Ytnemgmlhcjhdhaa.doT; split
  · exact h.leave _
  · exact h.ask _ _ _
set_option maxRecDepth 100000 in
set_option maxHeartbeats 1600000 in
theorem mem_do {w0 w : World} {D0 : List Nat} {p : Nat} {L : List Li} {r : List Asn} [Stables r] (h : Mem w0 D0 w (TabA p L :: r)) (ok : LOk L) (hb : Sm 400 L) (a : Ac) :
    Calls Try.prog 13 #[.pointer (some ⟨p, 0, none⟩), .agg #[.int .i64 a.owner, .string a.key, .int .i64 a.mode, .bool a.leave]] w fun e w' => e = .returned (.tuple #[]) ∧ Mem w0 D0 w' (TabA p (doT L a) :: r) := by
  obtain ⟨ao, ak, am, al⟩ := a
  simp only
  have M1 := Lib.hid (h.below (bel_new w (.cells #[.int .i64 ao, .string ak, .int .i64 am, .bool al] 28)))
  cases al with
  | true =>
    have HL := Lib.hid (mem_tleave M1.out ok hb ao)
    have hd : doT L ⟨ao, ak, am, true⟩ = (leaveL L ao).2 := rfl
    rw [hd]
    clear h hd M1
    go_enter Try.func13, Try.ntmps13
    go_wp2_with fail
    refine HL.out.mono ?_
    rintro e w1 ⟨a, c, rfl, hm⟩
    have HF := Lib.hid (Mem.drop [] (r := TabA p (leaveL L ao).2 :: r) hm)
    clear hm HL
    go_wp2_with fail
    go_end0
    exact ⟨rfl, HF.out⟩
  | false =>
    obtain ⟨x, L', he⟩ : ∃ x L', askL L ao ak am = (x, L') := ⟨_, _, rfl⟩
    have HL := Lib.hid (mem_task M1.out ok hb he)
    have hd : doT L ⟨ao, ak, am, false⟩ = L' := by show (askL L ao ak am).2 = _; rw [he]
    rw [hd]
    clear h hd M1 he
    go_enter Try.func13, Try.ntmps13
    go_wp2_with fail
    refine HL.out.mono ?_
    rintro e w1 ⟨rfl, hm⟩
    have HF := Lib.hid hm
    clear hm HL
    go_wp2_with fail
    go_end0
    exact ⟨rfl, HF.out⟩
end Go.Proofs.Ytnemgmlhcjhdhaa
