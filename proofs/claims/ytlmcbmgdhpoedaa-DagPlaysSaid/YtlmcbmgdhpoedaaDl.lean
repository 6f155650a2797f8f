/- Those on which none stands: walked. -/
import Derived.Test.YtlmcbmgdhpoedaaDk
namespace Go.Proofs.Ytlmcbmgdhpoedaa.Dl
open Go Go.RowKit Go.Proofs.Ytlmcbmgdhpoedaa.Aa Go.Proofs.Ytlmcbmgdhpoedaa.Vw Go.Proofs.Ytlmcbmgdhpoedaa.Mp Go.Proofs.Ytlmcbmgdhpoedaa.Da Go.Proofs.Ytlmcbmgdhpoedaa.Db Go.Proofs.Ytlmcbmgdhpoedaa.Dc Go.Proofs.Ytlmcbmgdhpoedaa.De Go.Proofs.Ytlmcbmgdhpoedaa.Df Go.Proofs.Ytlmcbmgdhpoedaa.Di Go.Proofs.Ytlmcbmgdhpoedaa.Dj Go.Proofs.Ytlmcbmgdhpoedaa.Dk
set_option linter.unusedVariables false
set_option linter.unusedSimpArgs false

theorem mem_mdel {m : List (Nm × Value)} {k x : Nm} : x ∈ (mdel m k).map (·.1) ↔ (x ∈ m.map (·.1) ∧ x ≠ k) := by
  unfold mdel
  constructor
  · intro h
    obtain ⟨p, hp, rfl⟩ := List.mem_map.1 h
    have := List.mem_filter.1 hp
    exact ⟨List.mem_map.2 ⟨p, this.1, rfl⟩, by simpa using this.2⟩
  · rintro ⟨h, hne⟩
    obtain ⟨p, hp, rfl⟩ := List.mem_map.1 h
    exact List.mem_map.2 ⟨p, List.mem_filter.2 ⟨hp, by simpa using hne⟩, rfl⟩
theorem clone_of (b : Nat) (m : List (Nm × Value)) (w : World) (h : MapV Value.string w b m) :
    Calls Try.prog 32 #[.map (some b)] w fun e w' => e = .returned (.map (some w.heap.size)) ∧ MapV Value.string w' w.heap.size m ∧ Ch no w w' ∧ w'.heap.size = w.heap.size + 1 := by
  obtain ⟨⟨es, clock, hb, hst, he⟩, hu⟩ := h
  have hc := AnyW.maps_Clone Try.cloneM b es clock w hb
  change Calls Try.prog 32 _ _ _ at hc
  refine hc.mono ?_
  rintro e w' ⟨rfl, rfl⟩
  exact ⟨rfl, ⟨⟨es, clock, bNew _ _, hst, he⟩, hu⟩, (Ch.refl _ _).alloc _, by simp⟩
/-- Between two rounds of Heads's loops. -/
structure HS (w wr : World) (B g rr n : Nat) (m : List (Nm × Value)) (d : Gr) (lf left : Lit → Bool) (cnt : Nat) (mo : List (Nm × Value)) (cur : List Nm) : Prop where
  ch : Ch no w wr
  rng : wr.ranges Try.prog 30 asIs B rr n (datum m) left cnt
  out : MapV Value.string wr g mo
  inv1 : ∀ p ∈ mo.map (·.1), p ∈ d.ids
  inv2 : ∀ p ∈ d.ids, p ∉ mo.map (·.1) → BelowP d p
  inv3 : ∀ e ∈ d.ins, gone lf e.1 → ∀ p ∈ e.2.1, p ∉ mo.map (·.1)
  cur : ∀ p ∈ cur, p ∉ mo.map (·.1)
  hg : w.heap.size ≤ g
  hr : w.heap.size ≤ rr
  hgr : g ≠ rr
  hrw : rr < wr.heap.size
set_option maxRecDepth 100000 in
set_option maxHeartbeats 4000000 in
theorem heads_of (B : Nat) (d : Gr) (n : Nat) (w : World) (h : DagV w B d) (hf : Fine d n) (hn : n ≤ 1000) :
    Calls Try.prog 12 #[ptr B] w fun e w' => ∃ v, e = .returned v ∧ OwnS w' w.heap.size v d.heads ∧ Ch no w w' := by
  obtain ⟨m, hm, he⟩ := h.inm
  have hkeys : m.map (·.1) = d.ids := by rw [he.keys, insP_keys]
  have hlen : m.length ≤ 1000 := by
    have h1 := congrArg List.length hkeys
    have h2 := hf.many
    simp only [List.length_map, Gr.ids] at h1
    omega
  have hsm : ∀ p ∈ m, p.1.size ≤ maxLen := by
    intro p hp
    have h1 : p.1 ∈ d.ids := by rw [← hkeys]; exact List.mem_map.2 ⟨p, hp, rfl⟩
    obtain ⟨e, he', h2⟩ := List.mem_map.1 h1
    have := hf.idz e he'
    rw [h2] at this
    unfold maxLen; omega
  have k0 := h.cell0
  have HD := Lib.hid h; have HF := Lib.hid hf; have HE := Lib.hid he; have HK := Lib.hid hkeys; have HM := Lib.hid hm; have HSM := Lib.hid hsm
  clear h hf he hkeys hm hsm
  go_enter Try.func12, Try.ntmps12
  go_wp2_with fail
  refine (clone_of B m w HM.out).mono ?_
  rintro e W1 ⟨rfl, hout, hc1, hs1⟩
  have hown := map_owns (P := Try.prog) Try.underlying30 (HM.out.ch hc1 (no_not _)) (by omega) HSM.out
  have k1 := (HD.out.ch hc1).cell0
  have HC1 := Lib.hid hc1; have HS1 := Lib.hid hs1; have HO := Lib.hid hout; have HOW := Lib.hid hown
  clear hc1 hs1 hout hown
  go_wp2_with (at_range; refine wpList_range_own _ rfl _ 49 rfl 30 27 (Maps.string_keyed Try.underlying30) Try.underlying49 asIs B m.length (datum m) rfl HOW.out ?_; intro w0 hrg0 hg0 hs0)
  have HI : Hid (HS w w0 B w.heap.size W1.heap.size m.length m d (Maps.has (datum m)) (Maps.has (datum m)) (Maps.size (datum m)) m []) := Lib.hid (by
    have hc0 : Ch no W1 w0 := (grown_ch hg0).mono (fun k h => by cases h)
    have := HS1.out
    refine ⟨HC1.out.then_ hc0, hrg0, HO.out.ch hc0 (no_not _), by rw [HK.out]; exact fun p h => h, ?_, ?_, by simp, Nat.le_refl _, by omega, by omega, by omega⟩
    · intro p hp hk
      rw [HK.out] at hk
      exact absurd hp hk
    · intro e he' hgo p hp
      have h1 : e.1 ∈ m.map (·.1) := by rw [HK.out]; exact List.mem_map.2 ⟨e, he', rfl⟩
      unfold gone at hgo
      rw [datum_has h1] at hgo
      cases hgo)
  go_frame
  obtain ⟨rr, hr⟩ : ∃ rr, W1.heap.size = rr := ⟨_, rfl⟩
  obtain ⟨g, hg⟩ : ∃ g, w.heap.size = g := ⟨_, rfl⟩
  rw [hr, hg] at HI
  rw [hr, hg]
  have HG := Lib.hid hg
  clear hrg0 hg0 hs0 HOW HO HC1 HS1 k1 hg hr k0
  go_loopw [5] (fun _ wr => ∃ (left : Lit → Bool) (cnt : Nat) (mo : List (Nm × Value)), Hid (HS w wr B g rr m.length m d left left cnt mo [])) (fun _ wr => wr.rangeLeft B rr)
  case atStart => exact ⟨_, _, _, HI⟩
  case round =>
    clear HI
    obtain ⟨left, cnt, mo, HI⟩ := hrel
    go_wp2_with (at_next; refine wpList_next_ranges _ rfl _ rfl 30 (Maps.string_keyed Try.underlying30) asIs Value.string id (fun key kl hk => Maps.keyOf_string_inv Try.underlying30 hk) (fun v _ _ => ⟨v, rfl⟩) B rr m.length _ _ _ rfl HI.out.rng ?_ ?_)
    · intro hc0 hl0
      have hql := nodup_len (m := d.ids) HI.out.out.unlike HI.out.inv1
      have hmo : mo.length ≤ 1000000 := by
        have h2 := HF.out.many
        simp only [List.length_map, Gr.ids] at hql
        omega
      have HQ := Lib.hid (heads_eq HF.out.nd HI.out.out.unlike HI.out.inv1 HI.out.inv2 (fun e he => HI.out.inv3 e he (hl0 _)))
      have hkz : ∀ p ∈ mo, p.1.size ≤ maxLen := fun p hp => by
        have h1 := HI.out.inv1 p.1 (List.mem_map.2 ⟨p, hp, rfl⟩)
        obtain ⟨e, he', h2⟩ := List.mem_map.1 h1
        have := HF.out.idz e he'
        rw [h2] at this
        unfold maxLen; omega
      clear hql hl0
      go_wp2_with (refine (sorted_of g mo _ HI.out.out hmo hkz).mono ?_; rintro e w1 ⟨v, rfl, hown, hch⟩; have HO1 := Lib.hid hown; have HC1 := Lib.hid hch; clear hown hch)
      go_ret
      refine ⟨v, rfl, ?_, HI.out.ch.then_ HC1.out⟩
      have h1 := HO1.out
      rw [HQ.out] at h1
      exact own_less h1 HI.out.ch.size
    · intro x c kl yd yp w2 cnt2 hkey hlk hv hat hrg2 hlt hg2 hs2 hen
      obtain ⟨x', ex, rfl, _⟩ := Maps.keyOf_str Try.underlying30 hkey
      have hxx : x = toNm x' := by
        have : Value.string x = Value.string (toNm x') := ex
        cases this; rfl
      have hx' : x' = x.data.toList := by rw [hxx, list_toNm]
      subst hx'
      obtain ⟨v, hyv, hmem⟩ := datum_at hat
      have hcv : c = v := by
        unfold asIs at hv
        have h1 := (Prod.mk.inj (Option.some.inj hv)).1
        rw [hyv] at h1
        cases h1; rfl
      subst hcv
      obtain ⟨l, hl', hrow⟩ := ent_mem HE.out hmem
      obtain ⟨e0, he0, hl⟩ : ∃ e ∈ d.ins, (e.1, e.2.1) = (x, l) := by
        unfold insP at hl'
        exact List.mem_map.1 hl'
      have hc2 : Ch (Aa.one rr) wr w2 := (grown_ch hg2).mono (fun k (h : some k = some rr) => by cases h; rfl)
      have hcw2 : Ch no w w2 := ch_at HI.out.ch hc2 HI.out.hr
      obtain ⟨A, cp, rfl, hr⟩ := hrow
      have hlen := hr.len
      have hl0 : wr.rangeLeft B rr = cnt := HI.out.rng.left_eq
      have HI2 : Hid (HS w w2 B g rr m.length m d left (fun z => left z && !z.sameKey (.string x.data.toList)) cnt2 mo (l.take 0)) := Lib.hid
        ⟨hcw2, hrg2, HI.out.out.ch hc2 (fun h => HI.out.hgr h), HI.out.inv1, HI.out.inv2, HI.out.inv3, by simp, HI.out.hg, HI.out.hr, HI.out.hgr, by have := HI.out.hrw; have := hc2.size; omega⟩
      have HX := Lib.hid hr; have HLT := Lib.hid hlt; have HL0 := Lib.hid hl0
      have HL : Hid (∃ e ∈ d.ins, e.1 = x ∧ e.2.1 = l) := Lib.hid ⟨e0, he0, (Prod.mk.inj hl).1, (Prod.mk.inj hl).2⟩
      have HU : Hid (∀ e ∈ d.ins, e.1 = x → e.2.1 = l) := Lib.hid (fun e he' hx => by
        have h1 := get_of_mem HF.out.nd (show (e0.1, e0.2) ∈ d.ins from he0)
        have h2 := get_of_mem HF.out.nd (show (e.1, e.2) ∈ d.ins from he')
        rw [hx] at h2
        rw [(Prod.mk.inj hl).1, h2] at h1
        rw [Option.some.inj h1]
        exact (Prod.mk.inj hl).2)
      clear hr hl hc2 hcw2 hg2 hv hat hyv hmem hkey ex hxx hlk hrg2 HI hlt hl0 hl' he0
      go_wp2_with fail
      go_loopw [24] (fun i wz => ∃ (k : Nat) (mo : List (Nm × Value)), k ≤ l.length ∧ i = .int .i64 k ∧ Hid (HS w wz B g rr m.length m d left (fun z => left z && !z.sameKey (.string x.data.toList)) cnt2 mo (l.take k))) (fun i _ => l.length - (intOf i).toNat)
      case atStart => exact ⟨0, mo, by omega, rfl, HI2⟩
      case round =>
        clear HI2
        obtain ⟨k, mo, hk, rfl, HI⟩ := hrel
        by_cases hlt : k < l.length
        · obtain ⟨a, rfl, hca⟩ := (HX.out.ch HI.out.ch).flat_at k hlt
          have HPL := Lib.hid (show l[k] ∈ l from List.getElem_mem _)
          have HPT : Hid (l.take (k + 1) = l.take k ++ [l[k]]) := Lib.hid (List.take_succ_eq_append_getElem hlt)
          obtain ⟨p, hp⟩ : ∃ p, l[k] = p := ⟨_, rfl⟩
          rw [hp] at hca HPL HPT
          clear hp
          obtain ⟨w4, hrun, hm4, hc4⟩ := run_del strKey Try.underlying49 Try.underlying30 HI.out.out p 30 0
          have HN : Hid (HS w w4 B g rr m.length m d left (fun z => left z && !z.sameKey (.string x.data.toList)) cnt2 (mdel mo p) (l.take (k + 1))) := Lib.hid (by
            have hB := HD.out.lt
            have hg := HI.out.hg
            refine ⟨ch_at HI.out.ch hc4 HI.out.hg, ranges_ch HI.out.rng hc4 (fun h => by have h' : B = g := h; omega) (fun h => HI.out.hgr (h : rr = g).symm), hm4, ?_, ?_, ?_, ?_, HI.out.hg, HI.out.hr, HI.out.hgr, by have := HI.out.hrw; have := hc4.size; omega⟩
            · exact fun q hq => HI.out.inv1 q (mem_mdel.1 hq).1
            · intro q hq hk
              by_cases hqm : q ∈ mo.map (·.1)
              · have hqp : q = p := by
                  apply Classical.byContradiction
                  intro hne
                  exact hk (mem_mdel.2 ⟨hqm, hne⟩)
                subst hqp
                obtain ⟨e, he', _, h2⟩ := HL.out
                exact ⟨e, he', by rw [h2]; exact HPL.out⟩
              · exact HI.out.inv2 q hq hqm
            · exact fun e he' hgo q hq hk => HI.out.inv3 e he' hgo q hq (mem_mdel.1 hk).1
            · rw [HPT.out]
              intro q hq hk
              rcases List.mem_append.1 hq with hq | hq
              · exact HI.out.cur q hq (mem_mdel.1 hk).1
              · simp only [List.mem_singleton] at hq
                exact (mem_mdel.1 hk).2 hq)
          clear HI hm4 hc4
          go_wp2_with fail
          go_roundw
          case rel => exact ⟨k + 1, _, by omega, by go_num, HN⟩
          case measure => simp [intOf]; omega
        · have HT : Hid (l.take k = l) := Lib.hid (by rw [List.take_of_length_le (by omega)])
          have HN : Hid (HS w wr B g rr m.length m d (fun z => left z && !z.sameKey (.string x.data.toList)) (fun z => left z && !z.sameKey (.string x.data.toList)) cnt2 mo []) := Lib.hid (by
            refine { HI.out with inv3 := ?_, cur := by simp }
            intro e he' hgo q hq
            rcases gone_step hgo with h | h
            · exact HI.out.inv3 e he' h q hq
            · rw [HU.out e he' h] at hq
              have h1 := HI.out.cur
              rw [HT.out] at h1
              exact h1 q hq)
          clear HI
          go_wp2_with fail
          go_roundw
          case rel => exact ⟨_, _, _, HN⟩
          case measure => rw [HN.out.rng.left_eq, HL0.out]; exact HLT.out
end Go.Proofs.Ytlmcbmgdhpoedaa.Dl
