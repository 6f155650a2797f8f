/- Those that are lacked: walked. -/
import Derived.Test.YtlmcbmgdhpoedaaDj
namespace Go.Proofs.Ytlmcbmgdhpoedaa.Dk
open Go Go.RowKit Go.Proofs.Ytlmcbmgdhpoedaa.Aa Go.Proofs.Ytlmcbmgdhpoedaa.Vw Go.Proofs.Ytlmcbmgdhpoedaa.Mp Go.Proofs.Ytlmcbmgdhpoedaa.Da Go.Proofs.Ytlmcbmgdhpoedaa.Db Go.Proofs.Ytlmcbmgdhpoedaa.Dc Go.Proofs.Ytlmcbmgdhpoedaa.De Go.Proofs.Ytlmcbmgdhpoedaa.Df Go.Proofs.Ytlmcbmgdhpoedaa.Di Go.Proofs.Ytlmcbmgdhpoedaa.Dj
set_option linter.unusedVariables false
set_option linter.unusedSimpArgs false

theorem ent_mem {w : World} {m : List (Nm × Value)} {l : List (Nm × List Nm)} (h : Ent w m l) {x : Nm} {c : Value} (hx : (x, c) ∈ m) : ∃ ps, (x, ps) ∈ l ∧ RowV w c ps := by
  induction h with
  | nil => simp at hx
  | @cons p q m l h1 _ ih =>
    rcases List.mem_cons.1 hx with he | hx
    · subst he
      have h2 := h1.1
      have h3 := h1.2
      simp only at h2 h3
      obtain ⟨q1, q2⟩ := q
      simp only at h2 h3
      subst h2
      exact ⟨q2, List.mem_cons_self .., h3⟩
    · obtain ⟨ps, h3, h4⟩ := ih hx
      exact ⟨ps, List.mem_cons_of_mem _ h3, h4⟩
theorem mem_mput {m : List (Nm × Value)} {k x : Nm} {v : Value} : x ∈ (mput m k v).map (·.1) ↔ (x = k ∨ x ∈ m.map (·.1)) := by
  have h := mget_put m k x v
  by_cases hx : x = k
  · subst hx
    rw [if_pos rfl] at h
    constructor
    · intro _; exact .inl rfl
    · intro _
      exact List.mem_map.2 ⟨(x, v), mget_some_mem h, rfl⟩
  · rw [if_neg hx] at h
    have hn : ∀ l : List (Nm × Value), x ∈ l.map (·.1) ↔ mget l x ≠ none := fun l => by
      rw [Ne, mget_none]
      constructor
      · intro h1 h2
        obtain ⟨p, hp, he⟩ := List.mem_map.1 h1
        exact h2 p hp he
      · intro h1
        apply Classical.byContradiction
        intro h2
        exact h1 (fun p hp e => h2 (List.mem_map.2 ⟨p, hp, e⟩))
    rw [hn, h, ← hn]
    constructor
    · exact .inr
    · rintro (h1 | h1)
      · exact absurd h1 hx
      · exact h1
/-- Between two rounds of Lacks's loops. -/
structure LS (w wr : World) (B g rr n : Nat) (m : List (Nm × Value)) (d : Gr) (lf left : Lit → Bool) (cnt : Nat) (mo : List (Nm × Value)) (cur : List Nm) : Prop where
  ch : Ch no w wr
  rng : wr.ranges Try.prog 30 asIs (B + 1) rr n (datum m) left cnt
  out : MapV Value.string wr g mo
  inv1 : ∀ p ∈ mo.map (·.1), LackP d p
  inv2 : ∀ e ∈ d.waits, gone lf e.1 → ∀ p ∈ e.2, d.known p = false → p ∈ mo.map (·.1)
  cur : ∀ p ∈ cur, d.known p = false → p ∈ mo.map (·.1)
  hg : w.heap.size ≤ g
  hr : w.heap.size ≤ rr
  hgr : g ≠ rr
  hrw : rr < wr.heap.size
theorem ch_at {w w1 w2 : World} {g : Nat} (h : Ch no w w1) (hc : Ch (Aa.one g) w1 w2) (hg : w.heap.size ≤ g) : Ch no w w2 :=
  h.trans hc (fun i hi (hk : i = g) => by omega)
set_option maxRecDepth 100000 in
set_option maxHeartbeats 4000000 in
theorem lacks_of (B : Nat) (d : Gr) (n : Nat) (w : World) (h : DagV w B d) (hf : Fine d n) (hn : n ≤ 1000) :
    Calls Try.prog 19 #[ptr B] w fun e w' => ∃ v, e = .returned v ∧ OwnS w' w.heap.size v d.lacks ∧ Ch no w w' := by
  have hmm := @run_makeMap Try.prog
  obtain ⟨m, hm, he⟩ := h.wtm
  have hkeys : m.map (·.1) = d.wids := he.keys
  obtain ⟨W1, hW1⟩ : ∃ W1, w.alloc (.map #[] 0) = W1 := ⟨_, rfl⟩
  have hc1 : Ch no w W1 := by rw [← hW1]; exact (Ch.refl _ _).alloc _
  have hs1 : W1.heap.size = w.heap.size + 1 := by rw [← hW1]; simp
  have hout : MapV Value.string W1 w.heap.size ([] : List (Nm × Value)) := by rw [← hW1]; exact MapV.new w
  have hsm : m.length ≤ 1000000 ∧ ∀ p ∈ m, p.1.size ≤ maxLen := by
    constructor
    · have h1 := congrArg List.length hkeys
      have h2 := hf.many
      simp only [List.length_map, Gr.wids] at h1
      omega
    · intro p hp
      have h1 : p.1 ∈ d.wids := by rw [← hkeys]; exact List.mem_map.2 ⟨p, hp, rfl⟩
      obtain ⟨e, he', h2⟩ := List.mem_map.1 h1
      have := hf.widz e he'
      rw [h2] at this
      unfold maxLen; omega
  have hown := map_owns (P := Try.prog) Try.underlying30 (hm.ch hc1 (no_not _)) hsm.1 hsm.2
  have k1 := (h.ch hc1).cell1
  have HD := Lib.hid h; have HF := Lib.hid hf; have HE := Lib.hid he; have HK := Lib.hid hkeys
  have HC1 := Lib.hid hc1; have HS1 := Lib.hid hs1; have HO := Lib.hid hout; have HOW := Lib.hid hown
  clear h hf he hkeys hc1 hs1 hout hown hsm hm
  go_enter Try.func19, Try.ntmps19
  go_wp2_with (at_range; refine wpList_range_own _ rfl _ 49 rfl 30 27 (Maps.string_keyed Try.underlying30) Try.underlying49 asIs (B + 1) m.length (datum m) rfl HOW.out ?_; intro w0 hrg0 hg0 hs0)
  have hrr : W1.heap.size = w.heap.size + 1 := HS1.out
  have HI : Hid (LS w w0 B w.heap.size W1.heap.size m.length m d (Maps.has (datum m)) (Maps.has (datum m)) (Maps.size (datum m)) [] []) := Lib.hid (by
    have hc0 : Ch no W1 w0 := (grown_ch hg0).mono (fun k h => by cases h)
    refine ⟨HC1.out.then_ hc0, hrg0, HO.out.ch hc0 (no_not _), by simp, ?_, by simp, Nat.le_refl _, by omega, by omega, by omega⟩
    intro e he' hgo p hp hk
    have h1 : e.1 ∈ m.map (·.1) := by rw [HK.out]; exact List.mem_map.2 ⟨e, he', rfl⟩
    unfold gone at hgo
    rw [datum_has h1] at hgo
    cases hgo)
  obtain ⟨rr, hr⟩ : ∃ rr, W1.heap.size = rr := ⟨_, rfl⟩
  obtain ⟨g, hg⟩ : ∃ g, w.heap.size = g := ⟨_, rfl⟩
  rw [hr, hg] at HI
  rw [hr]
  go_frame
  rw [hg]
  have HG := Lib.hid hg
  clear hrg0 hg0 hs0 hrr HOW HO HC1 HS1 k1 hg hr hW1
  go_loopw [5] (fun _ wr => ∃ (left : Lit → Bool) (cnt : Nat) (mo : List (Nm × Value)), Hid (LS w wr B g rr m.length m d left left cnt mo [])) (fun _ wr => wr.rangeLeft (B + 1) rr)
  case atStart => exact ⟨_, _, _, HI⟩
  case round =>
    clear HI
    obtain ⟨left, cnt, mo, HI⟩ := hrel
    go_wp2_with (at_next; refine wpList_next_ranges _ rfl _ rfl 30 (Maps.string_keyed Try.underlying30) asIs Value.string id (fun key kl hk => Maps.keyOf_string_inv Try.underlying30 hk) (fun v _ _ => ⟨v, rfl⟩) (B + 1) rr m.length _ _ _ rfl HI.out.rng ?_ ?_)
    · intro hc0 hl0
      have hlk := lack_len HF.out hn HI.out.out.unlike HI.out.inv1
      have heq := lacks_eq HI.out.out.unlike HI.out.inv1 (fun e he => HI.out.inv2 e he (hl0 _))
      have HQ := Lib.hid heq
      have hlen : mo.length ≤ 1000000 := by have := hlk.1; rwa [List.length_map] at this
      have hkz : ∀ p ∈ mo, p.1.size ≤ maxLen := fun p hp => by have := hlk.2 p.1 (List.mem_map.2 ⟨p, hp, rfl⟩); unfold maxLen; omega
      clear hlk heq hl0
      go_wp2_with (refine (sortedB_of g mo _ HI.out.out hlen hkz).mono ?_; rintro e w1 ⟨v, rfl, hown, hch⟩; have HO1 := Lib.hid hown; have HC1 := Lib.hid hch; clear hown hch)
      go_ret
      refine ⟨v, rfl, ?_, HI.out.ch.then_ HC1.out⟩
      have h1 := HO1.out
      rw [HQ.out] at h1
      exact own_less h1 HI.out.ch.size
    · intro x c kl yd yp w2 cnt2 hkey hlk hv hat hrg2 hlt hg2 hs2 hen
      obtain ⟨x', ex, rfl, _⟩ := Maps.keyOf_str Try.underlying30 hkey
      have hxx : x = toNm x' := by
        have : Value.string x = Value.string (toNm x') := ex
        cases this; rfl
      have hx' : x' = x.data.toList := by rw [hxx, list_toNm]
      subst hx'
      obtain ⟨v, hyv, hmem⟩ := datum_at hat
      have hcv : c = v := by
        unfold asIs at hv
        have h1 := (Prod.mk.inj (Option.some.inj hv)).1
        rw [hyv] at h1
        cases h1; rfl
      subst hcv
      obtain ⟨l, hl, hrow⟩ := ent_mem HE.out hmem
      have hc2 : Ch (Aa.one rr) wr w2 := (grown_ch hg2).mono (fun k (h : some k = some rr) => by cases h; rfl)
      have hcw2 : Ch no w w2 := ch_at HI.out.ch hc2 HI.out.hr
      obtain ⟨A, cp, rfl, hr⟩ := hrow
      have hlen := hr.len
      have hl0 : wr.rangeLeft (B + 1) rr = cnt := HI.out.rng.left_eq
      have HI2 : Hid (LS w w2 B g rr m.length m d left (fun z => left z && !z.sameKey (.string x.data.toList)) cnt2 mo (l.take 0)) := Lib.hid
        ⟨hcw2, hrg2, HI.out.out.ch hc2 (fun h => HI.out.hgr h), HI.out.inv1, HI.out.inv2, by simp, HI.out.hg, HI.out.hr, HI.out.hgr, by have := HI.out.hrw; have := hc2.size; omega⟩
      have HX := Lib.hid hr; have HL := Lib.hid hl; have HLT := Lib.hid hlt; have HL0 := Lib.hid hl0
      have HU : Hid (∀ e ∈ d.waits, e.1 = x → e.2 = l) := Lib.hid (fun e he' hx => by
        have h1 := get_of_mem HF.out.wnd hl
        have h2 := get_of_mem HF.out.wnd (show (e.1, e.2) ∈ d.waits from he')
        rw [hx, h1] at h2
        exact (Option.some.inj h2).symm)
      clear hr hl hc2 hcw2 hg2 hv hat hyv hmem hkey ex hxx hlk hrg2 HI hlt hl0
      go_wp2_with fail
      go_loopw [22] (fun i wz => ∃ (k : Nat) (mo : List (Nm × Value)), k ≤ l.length ∧ i = .int .i64 k ∧ Hid (LS w wz B g rr m.length m d left (fun z => left z && !z.sameKey (.string x.data.toList)) cnt2 mo (l.take k))) (fun i _ => l.length - (intOf i).toNat)
      case atStart => exact ⟨0, mo, by omega, rfl, HI2⟩
      case round =>
        clear HI2
        obtain ⟨k, mo, hk, rfl, HI⟩ := hrel
        by_cases hlt : k < l.length
        · obtain ⟨a, rfl, hca⟩ := (HX.out.ch HI.out.ch).flat_at k hlt
          have HDz := Lib.hid (HD.out.ch HI.out.ch)
          have k1 := HDz.out.cell1
          obtain ⟨u, hlk, _⟩ := HDz.out.look_wt (P := Try.prog) Try.underlying49 Try.underlying30 zeroIds l[k] true
          simp only [if_true] at hlk
          have HNX : Hid (d.known l[k] = true → LS w wr B g rr m.length m d left (fun z => left z && !z.sameKey (.string x.data.toList)) cnt2 mo (l.take (k + 1))) := Lib.hid (fun hk => by
            refine { HI.out with cur := ?_ }
            rw [List.take_succ_eq_append_getElem hlt]
            intro p hp hkp
            rcases List.mem_append.1 hp with hp | hp
            · exact HI.out.cur p hp hkp
            · simp only [List.mem_singleton] at hp
              subst hp
              rw [hk] at hkp; cases hkp)
          have HPL := Lib.hid (show l[k] ∈ l from List.getElem_mem _)
          have HPT : Hid (l.take (k + 1) = l.take k ++ [l[k]]) := Lib.hid (List.take_succ_eq_append_getElem hlt)
          obtain ⟨p, hp⟩ : ∃ p, l[k] = p := ⟨_, rfl⟩
          rw [hp] at hca hlk HNX HPL HPT
          clear hp
          cases hw : d.hasW p with
          | true =>
            have HN := Lib.hid (HNX.out (by unfold Gr.known; rw [hw]; rfl))
            rw [hw] at hlk
            clear hw HNX HI
            go_wp2_with fail
            go_roundw
            case rel => exact ⟨k + 1, mo, by omega, by go_num, HN⟩
            case measure => simp [intOf]; omega
          | false =>
            rw [hw] at hlk
            cases hh : d.has p with
            | true =>
              have HN := Lib.hid (HNX.out (by unfold Gr.known; rw [hh]; simp))
              have HH := Lib.hid hh
              clear hw hh HNX HI
              go_wp2_with (refine (has_of B d p _ HDz.out).mono ?_; rintro e w' ⟨rfl, rfl⟩; rw [HH.out])
              go_roundw
              case rel => exact ⟨k + 1, mo, by omega, by go_num, HN⟩
              case measure => simp [intOf]; omega
            | false =>
              have HH := Lib.hid hh
              have HKN : Hid (d.known p = false) := Lib.hid (by unfold Gr.known; rw [hw, hh]; rfl)
              obtain ⟨w4, hrun, hm4, hc4⟩ := run_put strKey Try.underlying54 Try.underlying30 HI.out.out p (.bool true)
              have HN : Hid (LS w w4 B g rr m.length m d left (fun z => left z && !z.sameKey (.string x.data.toList)) cnt2 (mput mo p (.bool true)) (l.take (k + 1))) := Lib.hid (by
                have hB := HD.out.lt
                have hg := HI.out.hg
                refine ⟨ch_at HI.out.ch hc4 HI.out.hg, ranges_ch HI.out.rng hc4 (fun h => by have h' : B + 1 = g := h; omega) (fun h => HI.out.hgr (h : rr = g).symm), hm4, ?_, ?_, ?_, HI.out.hg, HI.out.hr, HI.out.hgr, by have := HI.out.hrw; have := hc4.size; omega⟩
                · intro q hq
                  rcases mem_mput.1 hq with rfl | hq
                  · exact ⟨(x, l), HL.out, HPL.out, HKN.out⟩
                  · exact HI.out.inv1 q hq
                · intro e he' hgo q hq hk
                  exact mem_mput.2 (.inr (HI.out.inv2 e he' hgo q hq hk))
                · rw [HPT.out]
                  intro q hq hk
                  rcases List.mem_append.1 hq with hq | hq
                  · exact mem_mput.2 (.inr (HI.out.cur q hq hk))
                  · simp only [List.mem_singleton] at hq
                    exact mem_mput.2 (.inl hq))
              clear hw hh HNX HI hm4 hc4
              go_wp2_with (refine (has_of B d p _ HDz.out).mono ?_; rintro e w' ⟨rfl, rfl⟩; rw [HH.out])
              go_roundw
              case rel => exact ⟨k + 1, _, by omega, by go_num, HN⟩
              case measure => simp [intOf]; omega
        · have HT : Hid (l.take k = l) := Lib.hid (by rw [List.take_of_length_le (by omega)])
          have HN : Hid (LS w wr B g rr m.length m d (fun z => left z && !z.sameKey (.string x.data.toList)) (fun z => left z && !z.sameKey (.string x.data.toList)) cnt2 mo []) := Lib.hid (by
            refine { HI.out with inv2 := ?_, cur := by simp }
            intro e he' hgo q hq hk
            rcases gone_step hgo with h | h
            · exact HI.out.inv2 e he' h q hq hk
            · rw [HU.out e he' h] at hq
              have h1 := HI.out.cur
              rw [HT.out] at h1
              exact h1 q hq hk)
          clear HI
          go_wp2_with fail
          go_roundw
          case rel => exact ⟨_, _, _, HN⟩
          case measure => rw [HN.out.rng.left_eq, HL0.out]; exact HLT.out
end Go.Proofs.Ytlmcbmgdhpoedaa.Dk
