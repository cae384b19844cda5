/- Skip walked. -/
import Derived.Test.YtcolaafgjlaikaaS
import Derived.Deep.QuietTactic
import Derived.BigQuiet
namespace Go.Proofs.Ytcolaafgjlaikaa
open Go.RowKit

def SkRel (w : World) (p N : Nat) (ns : List Nd) (i : Nat) (clk lo hi : Int) (l0 : List Tm) (M : Nat) (v : Value) (wr : World) : Prop :=
  ∃ a c o l nsr, v = .slice a o.length c ∧ SkSt w wr p N ns nsr i clk l a c o ∧ LOk lo hi l ∧ (∀ o2 l', Drain clk l o2 l' → Drain clk l0 (o ++ o2) l') ∧ leftT clk l + o.length ≤ M

def lenS : Value → Nat
  | .slice _ n _ => n
  | _ => 0
theorem lenS_slice (a : Option Addr) (n c : Nat) : lenS (.slice a n c) = n := rfl
theorem SkSt.below {w wr wr' : World} {p N i : Nat} {ns nsr : List Nd} {clk : Int} {l : List Tm} {a : Option Addr} {c : Nat} {o : List Int} (h : SkSt w wr p N ns nsr i clk l a c o) (b : Below wr.heap.size wr wr') : SkSt w wr' p N ns nsr i clk l a c o :=
  ⟨h.row.touch (Touch.of_below b []) (by simp), h.to.trans (BdTo.of_below h.to.bd b), h.view, h.apart⟩

set_option maxRecDepth 100000 in
set_option maxHeartbeats 4000000 in
theorem pt_skip (p N : Nat) (ns : List Nd) (i : Nat) (hi : i < ns.length) (k : Int) (w : World) (h : Bd w p N ns) (hk0 : 0 ≤ k) (hk1 : k ≤ 256) (up : Int)
    (hok : LOk ns[i].clk up ns[i].l) (hc0 : 0 ≤ ns[i].clk) (hc1 : ns[i].clk + k ≤ 1099511627776) (hup : ns[i].clk + k + 1099511627776 ≤ up) (hup2 : up ≤ 4398046511104) (o : List Int) (l' : List Tm) (hd : Drain (ns[i].clk + k) ns[i].l o l') :
    Calls Try.prog 15 #[.pointer (some ⟨p, 0, none⟩), .int .i64 i, .int .i64 k] w (SkipPost w p N ns o ((viewB ns).set i (ns[i].clk + k, l'))) := by
  have HF := Lib.hid (pt_find p N ns.length i w h.cellP hi)
  obtain ⟨hcc, hcf⟩ := h.cellC i hi
  have hst0 : SkSt w (w.setCell ⟨N, i * 2, none⟩ (.int .i64 (ns[i].clk + k))) p N ns (ns.set i ⟨ns[i].clk + k, ns[i].a, ns[i].c, ns[i].l⟩) i (ns[i].clk + k) ns[i].l none 0 [] := by
    refine ⟨Row.nil _ _ _, h.step i hi _ ?_ ?_ (Touch.setCell _ _ _ (by simp)) (Fresh.refl _ _), viewB_set .., fun g hg => by cases hg⟩
    · rw [heap_set h.hN, ← ncells_setClk ns i hi]; simp
    · exact (h.row i hi).touch (Touch.setCell (bs := [N]) _ _ _ (by simp)) (fun x hx hm => (h.own i hi).1 (mem_blkOf.2 ⟨x, hx, by simpa using hm⟩))
  have hrel0 : SkRel w p N ns i (ns[i].clk + k) ns[i].clk up ns[i].l 16384 (.slice none 0 0) (w.setCell ⟨N, i * 2, none⟩ (.int .i64 (ns[i].clk + k))) :=
    ⟨none, 0, [], ns[i].l, _, rfl, hst0, hok, fun o2 l' h => h, by
      have h1 := leftT_le (lo := ns[i].clk) (clk := ns[i].clk + k) (l := ns[i].l) 256 (by omega) (fun t ht => (hok.rng t ht).1)
      have := hok.len
      simp only [List.length_nil]; omega⟩
  have HREL0 := Lib.hid hrel0
  have HD := Lib.hid hd
  clear hst0 hrel0 hok hd h
  have hk3 : ¬ k < 0 := by omega
  have hk4 : ¬ 256 < k := by omega
  generalize ns[i].clk = clk0 at *
  generalize ns[i].l = l0 at *
  have hk5 : ¬ 1099511627776 < clk0 + k := by omega
  have hk6 : decide (1099511627776 < clk0 + k) = false := decide_eq_false hk5
  go_enter Try.func15, Try.ntmps15
  go_wp2_with fail
  refine HF.out.mono ?_
  rintro e w1 ⟨rfl, rfl⟩
  go_wp2_with fail
  go_loopw [10] (fun v wr => Hid (SkRel w p N ns i (clk0 + k) clk0 up l0 16384 v wr)) (fun v _ => 16384 - lenS v)
  case atStart => exact HREL0
  case round =>
    obtain ⟨a, c, oc, l, nsr, rfl, hst, hok, hdr, hM⟩ := hrel.out
    obtain ⟨hlen, h1, hck, hls⟩ := view_at hi hst.view
    simp only at hck hls
    have hcl := (hst.to.bd.cellL i h1).1
    have hcc2 := (hst.to.bd.cellC i h1).1
    have hfl := (hst.to.bd.cellL i h1).2
    rw [hck] at hcc2
    cases l with
    | nil =>
      rw [hls] at hcl
      simp only [List.length_nil] at hcl
      have hfin : ∀ q, SkipPost w p N ns o ((viewB ns).set i (clk0 + k, l')) (.returned (.tuple #[.slice a oc.length c, .int .i64 0])) (wr.drewN q) := fun q => by
        obtain ⟨rfl, rfl⟩ := Drain.det HD.out (hdr [] [] (.done (by simp)))
        simp only [List.append_nil]
        have hst := hst.below (wr' := wr.drewN q) ⟨rfl, rfl, rfl, Nat.le_refl _, fun _ _ => rfl⟩
        exact ⟨a, c, nsr, rfl, hst.row, hst.to, hst.view, hst.apart⟩
      have HFIN := Lib.hid hfin
      clear hfin hst hok hdr hM hck hls hlen hrel hcc2 hfl HREL0
      generalize nsr[i].a = ai at *
      generalize nsr[i].c = ci at *
      generalize oc.length = ol at *
      go_wp2_with fail
      go_quiet (fail)
      go_wp2_with fail
      go_ret2
      exact HFIN.out _
    | cons t r =>
      have hrow := hst.to.bd.row i h1
      rw [hls] at hcl hrow
      obtain ⟨g, hag, hcs⟩ := flat_cells hrow 0 (by simp)
      obtain ⟨hx0, hx1, hx2⟩ := hcs
      simp only [List.getElem_cons_zero, Nat.zero_mul, Nat.zero_add] at hx0 hx1 hx2
      rw [hag] at hcl
      have hpos : ((0 : Int) < ((t :: r).length : Int)) := by simp only [List.length_cons]; omega
      by_cases hdue : t.due ≤ clk0 + k
      · have HST := Lib.hid hst
        have HOK := Lib.hid hok
        have HDR := Lib.hid hdr
        have HM := Lib.hid hM
        have HDUE := Lib.hid hdue
        clear hst hok hdr hM hck hls hlen hrel HREL0 hrow hag
        generalize nsr[i].c = ci at *
        generalize hol : oc.length = ol at *
        have HOL := Lib.hid hol
        clear hol
        have hpn : 0 < (t :: r).length := by simp
        generalize hll : (t :: r).length = tl at *
        clear hll
        have hpb : decide ((0 : Int) < (tl : Int)) = true := decide_eq_true hpos
        have hdb : decide (t.due ≤ clk0 + k) = true := decide_eq_true hdue
        obtain ⟨tid, tdue, tevery⟩ := t
        simp only at hx0 hx1 hx2 hdue hdb
        go_wp2_with fail
        go_quiet (fail)
        have HST1 := Lib.hid (HST.out.below (wr' := wr.drewN nq) ⟨rfl, rfl, rfl, Nat.le_refl _, fun _ _ => rfl⟩)
        clear hpos hpn hpb hcl hcc2 hfl hx0 hx1 hx2 HST
        generalize wr.drewN nq = W1 at *
        have hrow := HST1.out.to.bd.row i h1
        have hls := (view_at hi HST1.out.view).2.2.2
        have hck := (view_at hi HST1.out.view).2.2.1
        simp only at hck hls
        have hcl := (HST1.out.to.bd.cellL i h1).1
        have hfl := (HST1.out.to.bd.cellL i h1).2
        rw [hls] at hcl hrow
        obtain ⟨g, hag, hcs⟩ := flat_cells hrow 0 (by simp)
        obtain ⟨hx0, hx1, hx2⟩ := hcs
        simp only [List.getElem_cons_zero, Nat.zero_mul, Nat.zero_add] at hx0 hx1 hx2
        have HDel := Lib.hid fun W (hW : Below W1.heap.size W1 W) => pt_del0 p N nsr i h1 _ r g ((⟨tid, tdue, tevery⟩ : Tm) :: r).length nsr[i].c W1 W HST1.out.to.bd hls hag (by simp) rfl hW
        have hNlt : N < W1.heap.size := HST1.out.to.bd.lt N (mem_domB.2 (.inr (.inl rfl)))
        have hglt : g < W1.heap.size := HST1.out.to.bd.lt g (mem_domB.2 (.inr (.inr ⟨i, h1, by rw [hag]; simp [blkOf]⟩)))
        rw [hag] at hcl
        rw [hck] at HDel
        have hpn : 0 < ((⟨tid, tdue, tevery⟩ : Tm) :: r).length := by simp
        clear hck hls hrow hag
        generalize nsr[i].c = ci at *
        generalize ((⟨tid, tdue, tevery⟩ : Tm) :: r).length = tl at *
        generalize hrl : r.length = rl at *
        clear hrl
        go_wp2_with fail
        have hbel := Below.alloc (Below.refl W1.heap.size W1) (Nat.le_refl _) (.cells #[.int .i64 tid, .int .i64 tdue, .int .i64 tevery] 61)
        have HBEL := Lib.hid hbel
        have hT := flat_new W1 ⟨tid, tdue, tevery⟩ 61
        have HT := Lib.hid hT
        clear hbel hT hx0 hx1 hx2 hcl hfl
        refine (HDel.out _ HBEL.out).mono ?_
        rintro e w2 ⟨rfl, hcn, hfn, ht, ns2, hto2, hv2⟩
        have hst2 := HST1.out.bd hto2 hv2
        have hgs : g ≠ W1.heap.size := by omega
        have hNs : ¬ N = W1.heap.size := by omega
        have htc : ∀ {j : Nat} {v : Value}, (W1.alloc (.cells #[.int .i64 tid, .int .i64 tdue, .int .i64 tevery] 61)).cell? ⟨W1.heap.size, j, none⟩ = some v → (w2.setCell ⟨N, i * 2 + 1, none⟩ (.slice (some ⟨g, 0, none⟩) rl ci)).cell? ⟨W1.heap.size, j, none⟩ = some v := fun {j v} h =>
          ((ht.mono (cs := [g, N]) (by simp)).andThen (Touch.setCell w2 ⟨N, i * 2 + 1, none⟩ _ (by simp))).cell h (by simp; omega)
        have hdl : leftT (clk0 + k) (nextT ⟨tid, tdue, tevery⟩ r) < leftT (clk0 + k) (⟨tid, tdue, tevery⟩ :: r) := leftT_next _ _ _ HDUE.out
        have hrg := HOK.out.rng _ (List.mem_cons_self ..)
        simp only at hrg
        obtain ⟨b', cap', w3, hrun, hrw, htou, hfr, hsz3, _⟩ := app_int (w2.setCell ⟨N, i * 2 + 1, none⟩ (.slice (some ⟨g, 0, none⟩) rl ci)) 27 a oc.length c (ints oc) hst2.row tid (by have := HM.out; have := HOL.out; omega)
        have hst3 := hst2.app hrw htou hfr
        have hab : W1.heap.size ∉ blkOf a := fun hm => by obtain ⟨x, hx, e⟩ := mem_blkOf.1 hm; have := HST1.out.row.lt x hx; omega
        have htd : ∀ {j : Nat} {v : Value}, (W1.alloc (.cells #[.int .i64 tid, .int .i64 tdue, .int .i64 tevery] 61)).cell? ⟨W1.heap.size, j, none⟩ = some v → w3.cell? ⟨W1.heap.size, j, none⟩ = some v := fun {j v} h =>
          htou.cell (htc h) hab
        have hc0 := htc HT.out.1
        have hd0 := htd HT.out.1
        have hd1 := htd HT.out.2.1
        have hd2 := htd HT.out.2.2
        simp only [Nat.zero_add] at hc0 hd0 hd1 hd2
        have hz2 : (w2.setCell ⟨N, i * 2 + 1, none⟩ (.slice (some ⟨g, 0, none⟩) rl ci)).heap.size = w2.heap.size := by simp [World.setCell]
        rw [hz2] at hrun
        clear hz2
        have HRUN := Lib.hid hrun
        have HST3 := Lib.hid hst3
        rw [HOL.out] at HRUN
        have hsw2 : W1.heap.size + 1 ≤ w2.heap.size := by have := ht.size; simpa using this
        obtain ⟨_, hi2, hk2, hl2⟩ := view_at hi hst2.view
        simp only at hk2 hl2
        have HPUT := Lib.hid (pt_putB p N ns2 i hi2 ⟨tid, tdue + tevery, tevery⟩ w3 hst3.to.bd (by rw [hl2]; exact HOK.out.tail.1.srt) (by rw [hl2]; have := HOK.out.tail.1.len; omega))
        have HK2 := Lib.hid hk2
        have HL2 := Lib.hid hl2
        have hnext : ∀ w4 ns4 l4, SkSt w w4 p N ns ns4 i (clk0 + k) l4 b' cap' (oc ++ [tid]) → l4 = nextT ⟨tid, tdue, tevery⟩ r → Hid (SkRel w p N ns i (clk0 + k) clk0 up l0 16384 (.slice b' (ol + 1) cap') w4) := fun w4 ns4 l4 hs hl => by
          subst hl
          refine Lib.hid ⟨b', cap', oc ++ [tid], _, ns4, ?_, hs, HOK.out.next HDUE.out hup, fun o2 l2 hd => ?_, ?_⟩
          · rw [List.length_append, HOL.out]; rfl
          · rw [List.append_assoc]; exact HDR.out _ _ (.step HDUE.out hd)
          · have := HM.out
            rw [List.length_append, HOL.out]; simp only [List.length_cons, List.length_nil]; omega
        have hnum : 16384 - lenS (.slice b' (ol + 1) cap') < 16384 - lenS (.slice a ol c) := by
          have := HM.out
          simp only [lenS_slice]; omega
        clear hk2 hl2
        clear htc htd hrun hst3 hrw htou hfr hst2 hto2 hv2 ht
        by_cases hev : 0 < tevery
        · have hevb : decide (0 < tevery) = true := decide_eq_true hev
          go_wp2_with ((at_builtin; refine wpList_appendR _ rfl (.tmp 82) (.tmp 85) 27 27 rfl (.slice a ol c) (.slice (some ⟨w2.heap.size, 0, none⟩) 1 1) rfl rfl HRUN.out ?_))
          refine HPUT.out.mono ?_
          rintro e w4 ⟨rfl, ns4, hto4, hv4⟩
          have HFIN := Lib.hid (hnext w4 ns4 (nextT ⟨tid, tdue, tevery⟩ r) (HST3.out.bd hto4 (hv4.trans (by rw [HK2.out, HL2.out]; unfold nextT; rw [if_pos hev]))) rfl)
          have HNUM := Lib.hid hnum
          clear hto4 hv4 hnext hnum
          go_wp2_with fail
          go_roundw
          case rel => exact HFIN.out
          case measure => exact HNUM.out
        · have hevb : decide (0 < tevery) = false := decide_eq_false hev
          have HFIN := Lib.hid (hnext w3 ns2 (nextT ⟨tid, tdue, tevery⟩ r) (by unfold nextT; rw [if_neg hev]; exact HST3.out) rfl)
          have HNUM := Lib.hid hnum
          clear hnext hnum
          go_wp2_with ((at_builtin; refine wpList_appendR _ rfl (.tmp 82) (.tmp 85) 27 27 rfl (.slice a ol c) (.slice (some ⟨w2.heap.size, 0, none⟩) 1 1) rfl rfl HRUN.out ?_))
          go_roundw
          case rel => exact HFIN.out
          case measure => exact HNUM.out
      · have hfin : ∀ q, SkipPost w p N ns o ((viewB ns).set i (clk0 + k, l')) (.returned (.tuple #[.slice a oc.length c, .int .i64 0])) (wr.drewN q) := fun q => by
          obtain ⟨rfl, rfl⟩ := Drain.det HD.out (hdr [] (t :: r) (.done (by simp; omega)))
          simp only [List.append_nil]
          have hst := hst.below (wr' := wr.drewN q) ⟨rfl, rfl, rfl, Nat.le_refl _, fun _ _ => rfl⟩
          exact ⟨a, c, nsr, rfl, hst.row, hst.to, hst.view, hst.apart⟩
        have HFIN := Lib.hid hfin
        clear hfin hst hok hdr hM hck hls hlen hrel hfl HREL0 hrow hag
        generalize nsr[i].c = ci at *
        generalize oc.length = ol at *
        have hpn : 0 < (t :: r).length := by simp
        generalize (t :: r).length = tl at *
        have hpb : decide ((0 : Int) < (tl : Int)) = true := decide_eq_true hpos
        have hdb : decide (t.due ≤ clk0 + k) = false := decide_eq_false hdue
        go_wp2_with fail
        go_quiet (fail)
        go_wp2_with fail
        go_ret2
        exact HFIN.out _
end Go.Proofs.Ytcolaafgjlaikaa
