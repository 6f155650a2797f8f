/- The document's graph: what stands below one; whether one stands on another one: walked. -/
import Derived.Test.YtlmcbmgdhpoedaaFf
namespace Go.Proofs.Ytlmcbmgdhpoedaa.Fg
open Go Go.RowKit Go.Proofs.Ytlmcbmgdhpoedaa.Aa Go.Proofs.Ytlmcbmgdhpoedaa.Vw Go.Proofs.Ytlmcbmgdhpoedaa.Da Go.Proofs.Ytlmcbmgdhpoedaa.Db Go.Proofs.Ytlmcbmgdhpoedaa.De Go.Proofs.Ytlmcbmgdhpoedaa.Di Go.Proofs.Ytlmcbmgdhpoedaa.Ds Go.Proofs.Ytlmcbmgdhpoedaa.Du Go.Proofs.Ytlmcbmgdhpoedaa.Fa Go.Proofs.Ytlmcbmgdhpoedaa.Fb Go.Proofs.Ytlmcbmgdhpoedaa.Fc Go.Proofs.Ytlmcbmgdhpoedaa.Fd Go.Proofs.Ytlmcbmgdhpoedaa.Fe
set_option linter.unusedVariables false
set_option linter.unusedSimpArgs false

def belI (L : List Nd) (acc l : List Nm) : List Nm := l.foldl (fun o x => putAll o (rpar L x)) acc
def belN (L : List Nd) (b : Nm) : Nat → List Nm
  | 0 => [b]
  | n + 1 => belI L (belN L b n) (belN L b n)
def rbel (L : List Nd) (b : Nm) : List Nm := if rhas L b then belN L b L.length else []
theorem belI_next (L : List Nd) (acc l : List Nm) (k : Nat) (hk : k < l.length) : belI L acc (l.take (k + 1)) = putAll (belI L acc (l.take k)) (rpar L l[k]) := by
  unfold belI
  rw [List.take_succ_eq_append_getElem hk, List.foldl_append]
  rfl
theorem putAll_next' (acc l : List Nm) (k : Nat) (hk : k < l.length) : putAll acc (l.take (k + 1)) = putR (putAll acc (l.take k)) l[k] := by
  unfold putAll
  rw [List.take_succ_eq_append_getElem hk, List.foldl_append]
  rfl
/-- All that can stand below. -/
def uni (L : List Nd) (b : Nm) : List Nm := b :: L.flatMap (·.par)
structure Gd (U l : List Nm) : Prop where
  ss : SS l
  sub : ∀ y ∈ l, y ∈ U
theorem Gd.put {U l : List Nm} {y : Nm} (h : Gd U l) (hy : y ∈ U) : Gd U (putR l y) :=
  ⟨putR_ss h.ss, fun z hz => by rcases (mem_putR l).1 hz with rfl | hz; exact hy; exact h.sub z hz⟩
theorem Gd.all {U : List Nm} (ps : List Nm) (hp : ∀ p ∈ ps, p ∈ U) : ∀ l, Gd U l → Gd U (putAll l ps) := by
  induction ps with
  | nil => exact fun l h => h
  | cons p r ih => exact fun l h => ih (fun q hq => hp q (List.mem_cons_of_mem _ hq)) _ (h.put (hp p (List.mem_cons_self ..)))
theorem rpar_uni (L : List Nd) (b x : Nm) : ∀ p ∈ rpar L x, p ∈ uni L b := by
  intro p hp
  unfold rpar at?  at hp
  cases h : L.find? (fun n => decide (n.id = x)) with
  | none => rw [h] at hp; simp at hp
  | some n =>
    rw [h] at hp
    simp only at hp
    split at hp
    · exact List.mem_cons_of_mem _ (List.mem_flatMap.2 ⟨n, List.mem_of_find?_eq_some h, hp⟩)
    · simp at hp
theorem Gd.belI {L : List Nd} {b : Nm} (l : List Nm) : ∀ acc, Gd (uni L b) acc → Gd (uni L b) (belI L acc l) := by
  induction l with
  | nil => exact fun acc h => h
  | cons x r ih => exact fun acc h => ih _ (Gd.all _ (rpar_uni L b x) _ h)
theorem Gd.belN {L : List Nd} {b : Nm} : ∀ n, Gd (uni L b) (belN L b n) := by
  intro n
  induction n with
  | zero => exact ⟨by simp [Fg.belN, SS], fun y hy => by simp only [Fg.belN, List.mem_singleton] at hy; subst hy; exact List.mem_cons_self ..⟩
  | succ n ih => exact Gd.belI _ _ ih
theorem flat_len : ∀ L : List Nd, (∀ n ∈ L, n.par.length ≤ 6) → (L.flatMap (·.par)).length ≤ 6 * L.length := by
  intro L
  induction L with
  | nil => intro _; simp
  | cons n r ih =>
    intro h
    have h1 := ih (fun m hm => h m (List.mem_cons_of_mem _ hm))
    have h2 := h n (List.mem_cons_self ..)
    rw [List.flatMap_cons, List.length_append, List.length_cons]
    omega
theorem Gd.fine {L : List Nd} {b : Nm} (hs : Sm L) (hb : b.size ≤ 40) {l : List Nm} (h : Gd (uni L b) l) : l.length ≤ 85 ∧ ∀ y ∈ l, y.size ≤ 40 := by
  have hz : ∀ y ∈ uni L b, y.size ≤ 40 := fun y hy => by
    rcases List.mem_cons.1 hy with rfl | hy
    · exact hb
    · obtain ⟨n, hn, hp⟩ := List.mem_flatMap.1 hy
      exact hs.pz n hn y hp
  refine ⟨?_, fun y hy => hz y (h.sub y hy)⟩
  have h1 : l.length ≤ (uni L b).length := List.Nodup.length_le_of_subset h.ss.nodup (fun y hy => h.sub y hy)
  have h2 := flat_len L hs.pl
  have h3 := hs.len
  unfold uni at h1
  rw [List.length_cons] at h1
  omega
set_option maxRecDepth 100000 in
set_option maxHeartbeats 8000000 in
theorem rbel_of (R : Nat) (L : List Nd) (b : Nm) (w : World) (h : RefV w R L) (hs : Sm L) (hb : b.size ≤ 40) :
    Calls Try.prog 48 #[rptr R, .string b] w fun e w' => ∃ v, e = .returned v ∧ OwnS w' w.heap.size v (rbel L b) ∧ Ch no w w' := by
  have hh := rhas_of R L b w h
  have HV := Lib.hid h; have HS := Lib.hid hs
  cases hq : rhas L b with
  | false =>
    have HR : Hid (rbel L b = []) := Lib.hid (by unfold rbel; rw [hq]; rfl)
    rw [hq] at hh
    clear hq h hs
    go_enter Try.func48, Try.ntmps48
    go_wp2_with fail
    refine hh.mono ?_
    rintro e w' ⟨rfl, hw⟩
    subst hw
    clear hh
    go_wp2_with fail
    go_ret
    exact ⟨_, rfl, by rw [HR.out]; exact ⟨by simp, .inl ⟨rfl, by simp⟩⟩, Ch.refl _ _⟩
  | true =>
    have HR : Hid (rbel L b = belN L b L.length) := Lib.hid (by unfold rbel; rw [hq]; rfl)
    obtain ⟨A, c, hbk, hr⟩ := h.ex
    have hlx := hr.len
    have HB := Lib.hid hbk
    rw [hq] at hh
    clear hq hr hbk h hs
    have HO0 : Hid (OwnS (w.alloc (.cells #[.string b] 30)) w.heap.size (.slice (some ⟨w.heap.size, 0, none⟩) 1 1) (belN L b 0)) := Lib.hid (own_one w b w.heap.size (Nat.le_refl _))
    have HC0 : Hid (Ch no w (w.alloc (.cells #[.string b] 30))) := Lib.hid ((Ch.refl no w).alloc _)
    go_enter Try.func48, Try.ntmps48
    go_wp2_with fail
    refine hh.mono ?_
    rintro e w' ⟨rfl, hw⟩
    subst hw
    clear hh
    go_wp2_with fail
    go_loopw [6, 7] (fun o i wr => ∃ t : Nat, t ≤ L.length ∧ i = .int .i64 t ∧ Hid (OwnS wr w.heap.size o (belN L b t)) ∧ Hid (Ch no w wr)) (fun _ i _ => L.length - (intOf i).toNat)
    case atStart => exact ⟨0, by omega, rfl, HO0, HC0⟩
    case round =>
      clear HO0 HC0
      obtain ⟨t, ht, rfl, HO, HC⟩ := hrel
      have hc0 := (bCell (HC.out.blk HB.out (no_not _)) 0).trans rfl
      by_cases hlt : t < L.length
      · have HNX : Hid (belN L b (t + 1) = belI L (belN L b t) (belN L b t)) := Lib.hid rfl
        have HGA : Hid (Gd (uni L b) (belN L b t)) := Lib.hid (Gd.belN t)
        obtain ⟨all, hall⟩ : ∃ all, belN L b t = all := ⟨_, rfl⟩
        rw [hall] at HO HNX HGA
        clear hall
        obtain ⟨A0, c0, ho0⟩ := own_shape HO.out
        subst ho0
        have hal : all.length ≤ 85 := (HGA.out.fine HS.out hb).1
        have HI0 : Hid (OwnS wr w.heap.size (.slice A0 all.length c0) (belI L all (all.take 0))) := Lib.hid (by simpa [belI] using HO.out)
        have HRA := Lib.hid (row_of_own HO.out)
        clear HO
        go_wp2_with fail
        go_loopw [6, 9] (fun o i wz => ∃ k : Nat, k ≤ all.length ∧ i = .int .i64 k ∧ Hid (OwnS wz w.heap.size o (belI L all (all.take k))) ∧ Hid (Ch no wr wz)) (fun _ i _ => all.length - (intOf i).toNat)
        case atStart => exact ⟨0, by omega, rfl, HI0, Lib.hid (Ch.refl _ _)⟩
        case round =>
          clear HI0
          obtain ⟨k, hk, rfl, HI, HZ⟩ := hrel
          have HC2 := Lib.hid (HC.out.then_ HZ.out)
          replace hc0 := (bCell (HC2.out.blk HB.out (no_not _)) 0).trans rfl
          by_cases hlk : k < all.length
          · obtain ⟨a2, rfl, p3⟩ := (HRA.out.ch HZ.out).flat_at k hlk
            have hp := rpar_of R L all[k] wr (HV.out.ch HC2.out)
            have HGP := Lib.hid (belI_next L all all k hlk)
            have HGI : Hid (Gd (uni L b) (belI L all (all.take k))) := Lib.hid (Gd.belI _ _ HGA.out)
            have HPU : Hid ((∀ p ∈ rpar L all[k], p ∈ uni L b)) := Lib.hid (rpar_uni L b _)
            obtain ⟨y, hy⟩ : ∃ y, all[k] = y := ⟨_, rfl⟩
            replace p3 : wr.cell? (a2.add k) = some (.string y) := p3.trans (congrArg (fun z => some (Value.string z)) hy)
            rw [hy] at hp HGP HPU
            clear hy
            obtain ⟨cur, hcur⟩ : ∃ cur, belI L all (all.take k) = cur := ⟨_, rfl⟩
            rw [hcur] at HI HGP HGI
            clear hcur
            obtain ⟨q, hq⟩ : ∃ q, rpar L y = q := ⟨_, rfl⟩
            rw [hq] at hp HGP HPU
            clear hq
            obtain ⟨A1, c1, ho1⟩ := own_shape HI.out
            subst ho1
            go_wp2_with fail
            refine hp.mono ?_
            rintro e w5 ⟨v5, rfl, ⟨A5, c5, rfl, hr5⟩, hc5⟩
            have hlq := hr5.len
            have HR5 := Lib.hid hr5
            have HZ5 := Lib.hid (HZ.out.then_ hc5)
            have HC5 := Lib.hid (HC2.out.then_ hc5)
            have HI5 : Hid (OwnS w5 w.heap.size (.slice A1 cur.length c1) (putAll cur (q.take 0))) := Lib.hid (by simpa [putAll] using own_ch HI.out hc5 (fun _ _ => no_not _))
            clear hr5 hc5 hp HI
            go_wp2_with fail
            go_loopw [6, 11] (fun o j wz => ∃ m : Nat, m ≤ q.length ∧ j = .int .i64 m ∧ Hid (OwnS wz w.heap.size o (putAll cur (q.take m))) ∧ Hid (Ch no w5 wz)) (fun _ j _ => q.length - (intOf j).toNat)
            case atStart => exact ⟨0, by omega, rfl, HI5, Lib.hid (Ch.refl _ _)⟩
            case round =>
              clear HI5
              obtain ⟨m, hm, rfl, HM, HY⟩ := hrel
              have HZ6 := Lib.hid (HZ5.out.then_ HY.out)
              have HC6 := Lib.hid (HC5.out.then_ HY.out)
              by_cases hlm : m < q.length
              · obtain ⟨a3, rfl, p4⟩ := (HR5.out.ch HY.out).flat_at m hlm
                have HGQ := Lib.hid (putAll_next' cur q m hlm)
                have HGC : Hid (Gd (uni L b) (putAll cur (q.take m))) := Lib.hid (Gd.all _ (fun p hp => HPU.out p (List.mem_of_mem_take hp)) _ HGI.out)
                have HQZ : Hid (q[m].size ≤ 40) := Lib.hid ((((HGC.out.put (HPU.out _ (List.getElem_mem hlm)))).fine HS.out hb).2 _ ((mem_putR _).2 (.inl rfl)))
                obtain ⟨z, hz⟩ : ∃ z, q[m] = z := ⟨_, rfl⟩
                replace p4 : wr.cell? (a3.add m) = some (.string z) := p4.trans (congrArg (fun z => some (Value.string z)) hz)
                rw [hz] at HGQ HQZ
                clear hz
                obtain ⟨cu, hcu⟩ : ∃ cu, putAll cur (q.take m) = cu := ⟨_, rfl⟩
                rw [hcu] at HM HGQ HGC
                clear hcu
                obtain ⟨A6, c6, ho6⟩ := own_shape HM.out
                subst ho6
                have hput := put_of A6 c6 cu z wr (row_of_own HM.out) (by have := (HGC.out.fine HS.out hb).1; omega) (fun y hy => by have := (HGC.out.fine HS.out hb).2 y hy; omega) (by have := HQZ.out; omega)
                go_wp2_with fail
                refine hput.mono ?_
                rintro e w7 ⟨v7, rfl, ho7, hc7⟩
                have HO7 : Hid (OwnS w7 w.heap.size v7 (putR cu z)) := Lib.hid (own_less ho7 HC6.out.size)
                have HY7 := Lib.hid (HY.out.then_ hc7)
                clear ho7 hc7 hput
                go_wp2_with fail
                go_roundw
                case rel => exact ⟨m + 1, by omega, by go_num, Lib.hid (by rw [HGQ.out]; exact HO7.out), HY7⟩
                case measure => simp [intOf]; omega
              · have HT : Hid (q.take m = q) := Lib.hid (by rw [List.take_of_length_le (by omega)])
                have h1 := HM.out
                rw [HT.out, ← HGP.out] at h1
                have HM1 := Lib.hid h1
                clear h1 HM
                go_wp2_with fail
                go_roundw
                case rel => exact ⟨k + 1, by omega, by go_num, HM1, HZ6⟩
                case measure => simp [intOf]; omega
          · have HT : Hid (all.take k = all) := Lib.hid (by rw [List.take_of_length_le (by omega)])
            have h1 := HI.out
            rw [HT.out, ← HNX.out] at h1
            have HM1 := Lib.hid h1
            clear h1 HI
            go_wp2_with fail
            go_roundw
            case rel => exact ⟨t + 1, by omega, by go_num, HM1, HC2⟩
            case measure => simp [intOf]; omega
      · obtain rfl : t = L.length := by omega
        have h1 := HO.out
        rw [← HR.out] at h1
        have HO1 := Lib.hid h1
        clear h1
        go_wp2_with fail
        go_ret
        exact ⟨_, rfl, HO1.out, HC.out⟩
theorem any_next (l : List Nm) (a : Nm) (k : Nat) (hk : k < l.length) (h : ∀ y ∈ l.take k, y ≠ a) (hn : l[k] ≠ a) : ∀ y ∈ l.take (k + 1), y ≠ a := by
  intro y hy
  rw [List.take_succ_eq_append_getElem hk, List.mem_append] at hy
  rcases hy with hy | hy
  · exact h y hy
  · simp only [List.mem_singleton] at hy
    subst hy; exact hn
def rabove (L : List Nd) (a b : Nm) : Bool := decide (a ∈ rbel L b)
set_option maxRecDepth 100000 in
set_option maxHeartbeats 8000000 in
theorem rabove_of (R : Nat) (L : List Nd) (a b : Nm) (w : World) (h : RefV w R L) (hs : Sm L) (hb : b.size ≤ 40) :
    Calls Try.prog 30 #[rptr R, .string a, .string b] w fun e w' => e = .returned (.bool (rabove L a b)) ∧ Ch no w w' := by
  have hbl := rbel_of R L b w h hs hb
  obtain ⟨l, hl⟩ : ∃ l, rbel L b = l := ⟨_, rfl⟩
  have HR : Hid (rabove L a b = decide (a ∈ l)) := Lib.hid (by unfold rabove; rw [hl])
  rw [hl] at hbl
  clear hl h hs
  go_enter Try.func30, Try.ntmps30
  go_wp2_with fail
  refine hbl.mono ?_
  rintro e w2 ⟨v2, rfl, ho2, hc2⟩
  obtain ⟨A0, c0, ho0⟩ := own_shape ho2
  subst ho0
  have hr2 := row_of_own ho2
  have hlx := hr2.len
  have HX := Lib.hid hr2; have HC := Lib.hid hc2
  clear hr2 hc2 ho2 hbl
  go_wp2_with fail
  go_loopw [8] (fun i wr => ∃ k : Nat, k ≤ l.length ∧ i = .int .i64 k ∧ Hid (∀ y ∈ l.take k, y ≠ a) ∧ w2 = wr) (fun i _ => l.length - (intOf i).toNat)
  case atStart => exact ⟨0, by omega, rfl, Lib.hid (fun y hy => by simp at hy), rfl⟩
  case round =>
    obtain ⟨k, hk, rfl, HN, rfl⟩ := hrel
    by_cases hlt : k < l.length
    · obtain ⟨a2, rfl, p3⟩ := HX.out.flat_at k hlt
      by_cases he : l[k] = a
      · have hbe := beq_yes he
        have HA : Hid (decide (a ∈ l) = true) := Lib.hid (decide_eq_true (by rw [← he]; exact List.getElem_mem _))
        clear he
        go_wp2_with fail
        go_ret
        exact ⟨by rw [HR.out, HA.out]; rfl, HC.out⟩
      · have hbe := beq_no he
        have HN2 := Lib.hid (any_next l a k hlt HN.out he)
        clear he
        go_wp2_with fail
        go_roundw
        case rel => exact ⟨k + 1, by omega, by go_num, HN2, trivial⟩
        case measure => simp [intOf]; omega
    · have HA : Hid (decide (a ∈ l) = false) := Lib.hid (decide_eq_false (fun hm => HN.out a (by rw [List.take_of_length_le (by omega)]; exact hm) rfl))
      go_wp2_with fail
      go_ret
      exact ⟨by rw [HR.out, HA.out]; rfl, HC.out⟩
end Go.Proofs.Ytlmcbmgdhpoedaa.Fg
