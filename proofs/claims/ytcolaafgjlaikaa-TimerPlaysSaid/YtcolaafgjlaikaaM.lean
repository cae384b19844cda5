/- Set on a board. -/
import Derived.Test.YtcolaafgjlaikaaL
namespace Go.Proofs.Ytcolaafgjlaikaa
open Go.RowKit

def fullT (id : Int) (l : List Tm) : Bool := decide (¬ (keepT id l).length < l.length) && decide (64 ≤ (keepT id l).length)
def setE (id : Int) (l : List Tm) : Int := if fullT id l then 7 else 0
def setL (clk id after every : Int) (l : List Tm) : List Tm := if fullT id l then keepT id l else insT (keepT id l) ⟨id, clk + after, every⟩

theorem keepT_sorted {id : Int} {l : List Tm} (h : SortedT l) : SortedT (keepT id l) := List.Pairwise.sublist List.filter_sublist h
theorem keepT_len (id : Int) (l : List Tm) : (keepT id l).length ≤ l.length := List.length_filter_le _ _

theorem view_at {ns ns1 : List Nd} {i : Nat} (hi : i < ns.length) {x : Int × List Tm} (h : viewB ns1 = (viewB ns).set i x) : ns1.length = ns.length ∧ ∃ h1 : i < ns1.length, ns1[i].clk = x.1 ∧ ns1[i].l = x.2 := by
  have hl : ns1.length = ns.length := by have := congrArg List.length h; simpa [viewB] using this
  have h1 : i < ns1.length := by omega
  refine ⟨hl, h1, ?_⟩
  have := congrArg (fun m => m[i]?) h
  simp [viewB, h1, hi] at this
  exact ⟨congrArg Prod.fst this, congrArg Prod.snd this⟩

set_option maxHeartbeats 1600000 in
theorem pt_set (p N : Nat) (ns : List Nd) (i : Nat) (hi : i < ns.length) (id after every : Int) (hb : okSet id after every = true) (w : World) (h : Bd w p N ns)
    (hs : SortedT ns[i].l) (hbig : ns[i].l.length ≤ 1000) (hc0 : 0 ≤ ns[i].clk) (hc1 : ns[i].clk ≤ 1099511627776) :
    Calls Try.prog 8 #[.pointer (some ⟨p, 0, none⟩), .int .i64 i, .int .i64 id, .int .i64 after, .int .i64 every] w
      (BPost w p N ns (.returned (.int .i64 (setE id ns[i].l))) ((viewB ns).set i (ns[i].clk, setL ns[i].clk id after every ns[i].l))) := by
  have HF := Lib.hid (pt_find p N ns.length i w h.cellP hi)
  have HD := Lib.hid (pt_dropB p N ns i hi id w h hbig)
  obtain ⟨h1, h2, h3, h4, h5⟩ := of_decide_eq_true hb
  have HS := Lib.hid hs
  have HBIG := Lib.hid hbig
  clear hb h hs hbig
  generalize hR : BPost w p N ns (.returned (.int .i64 (setE id ns[i].l))) ((viewB ns).set i (ns[i].clk, setL ns[i].clk id after every ns[i].l)) = R
  have HR := Lib.hid hR
  clear hR
  have hq : Hid (decide ((keepT id ns[i].l).length < ns[i].l.length) = decide ((keepT id ns[i].l).length < ns[i].l.length)) := Lib.hid rfl
  generalize hqq : decide ((keepT id ns[i].l).length < ns[i].l.length) = q at HD
  have HQ := Lib.hid hqq
  clear hqq hq
  go_enter Try.func8, Try.ntmps8
  go_wp2_with fail
  refine HF.out.mono ?_
  rintro e w1 ⟨rfl, rfl⟩
  go_wp2_with fail
  refine HD.out.mono ?_
  rintro e w2 ⟨rfl, ns1, hto, hv⟩
  obtain ⟨hl1, hi1, hk1, hls⟩ := view_at hi hv
  have hcl := (hto.bd.cellL i hi1).1
  have hcc := (hto.bd.cellC i hi1).1
  rw [hls] at hcl
  rw [hk1] at hcc
  simp only at hcl hcc hls hk1
  have HP := Lib.hid (pt_putB p N ns1 i hi1 ⟨id, ns[i].clk + after, every⟩ w2 hto.bd (by rw [hls]; exact keepT_sorted HS.out) (by rw [hls]; exact Nat.le_trans (keepT_len _ _) HBIG.out))
  have HV := Lib.hid hv
  have HTO := Lib.hid hto
  have HL := Lib.hid hls
  have HK := Lib.hid hk1
  clear hv hto hls hk1 hl1
  have HFU : Hid (fullT id ns[i].l = (!q && decide (64 ≤ (keepT id ns[i].l).length))) := Lib.hid (by unfold fullT; rw [← HQ.out]; by_cases hh : (keepT id ns[i].l).length < ns[i].l.length <;> simp [hh])
  have hno : Hid (fullT id ns[i].l = true → R (.returned (.int .i64 7)) w2) := Lib.hid fun hf => by
    rw [← HR.out]
    refine ⟨by unfold setE; rw [hf]; rfl, ns1, HTO.out, ?_⟩
    rw [HV.out]; unfold setL; rw [hf]; rfl
  have hyes : Hid (fullT id ns[i].l = false → ∀ w3, BPost w2 p N ns1 (.returned (.tuple #[])) ((viewB ns1).set i (ns1[i].clk, insT ns1[i].l ⟨id, ns[i].clk + after, every⟩)) (.returned (.tuple #[])) w3 → R (.returned (.int .i64 0)) w3) := Lib.hid fun hf w3 hb => by
    obtain ⟨_, ns2, hto2, hv2⟩ := hb
    rw [← HR.out]
    refine ⟨by unfold setE; rw [hf]; rfl, ns2, HTO.out.trans hto2, ?_⟩
    rw [hv2, HV.out, HL.out, HK.out]; unfold setL; rw [hf]
    simp
  generalize hm : (keepT id ns[i].l).length = m at *
  generalize ns[i].clk = clk at *
  cases q with
  | true =>
    go_wp2_with fail
    refine HP.out.mono ?_
    rintro e w3 ⟨rfl, hb3⟩
    have HB3 := Lib.hid hb3
    clear hb3
    go_wp2_with fail
    exact hyes.out (by rw [HFU.out]; rfl) _ ⟨rfl, HB3.out⟩
  | false =>
    by_cases h64 : 64 ≤ m
    · have h64' : (64 : Int) ≤ (m : Int) := by omega
      go_wp2_with fail
      exact hno.out (by rw [HFU.out]; simp [h64])
    · have h64' : ¬ (64 : Int) ≤ (m : Int) := by omega
      go_wp2_with fail
      refine HP.out.mono ?_
      rintro e w3 ⟨rfl, hb3⟩
      have HB3 := Lib.hid hb3
      clear hb3
      go_wp2_with fail
      exact hyes.out (by rw [HFU.out]; simp [h64]) _ ⟨rfl, HB3.out⟩

end Go.Proofs.Ytcolaafgjlaikaa
