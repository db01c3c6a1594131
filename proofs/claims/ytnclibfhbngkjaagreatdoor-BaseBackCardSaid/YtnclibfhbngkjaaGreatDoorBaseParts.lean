/- base.parts: a package's six parts, as a base packs them. -/
import Derived.Test.YtnclibfhbngkjaaGreatDoorArcPack
import Derived.Test.YtnclibfhbngkjaaGreatDoorM1
namespace Go.Proofs.YtnclibfhbngkjaaGreatDoor
open Go.RowKit
attribute [local go_sem ↓] Go.wp_at_zero Go.wp_at_succ
def fileQ (f : FileD) : List By := [raw4 f.path, numI ((boolN f.config : Nat) : Int), numI ((le32 f.data : Nat) : Int)]
theorem fileQ_take {L : List FileD} {k : Nat} (h : k < L.length) : (L.take (k + 1)).flatMap fileQ = (L.take k).flatMap fileQ ++ fileQ (L.getD k fz) := by
  rw [List.take_succ_eq_append_getElem h, List.flatMap_append]
  simp [List.getD_eq_getElem?_getD, List.getElem?_eq_getElem h]
theorem fileQ_len (L : List FileD) : (L.flatMap fileQ).length = 3 * L.length := by
  induction L with
  | nil => rfl
  | cons m ms ih => simp only [List.flatMap_cons, List.length_append, ih, List.length_cons, fileQ, List.length_nil]; omega
theorem flat_filesE {L : List FileD} (h : ∀ f ∈ L, f.data.length = 4) : (L.flatMap fileQ).flatten = L.flatMap fileE := by
  induction L with
  | nil => rfl
  | cons m ms ih =>
    have hb : u32 ((boolN m.config : Nat) : Int) = boolN m.config := u32_of (by unfold boolN; split <;> omega)
    have hd : u32 ((le32 m.data : Nat) : Int) = le32 m.data := u32_of (le32_lt _)
    simp only [List.flatMap_cons, List.flatten_append, ih (fun f hf => h f (by simp [hf]))]
    simp [fileQ, fileE, numI, hb, hd, num4_le (h m (by simp))]
theorem flatE_le (L : List FileD) : (L.flatMap fileE).length ≤ (L.flatMap fileB).length := by
  induction L with
  | nil => simp
  | cons m ms ih =>
    simp only [List.flatMap_cons, List.length_append]
    have : (fileE m).length ≤ (fileB m).length := by simp [fileE, fileB, raw4_len, num4_len]
    omega
def partsE (p : PkgD) : List By := [raw4 p.name, raw4 p.ver, raw4 (p.needs.flatMap needB), raw4 (p.conf.flatMap raw4), raw4 (p.files.flatMap fileE), raw4 (p.units.flatMap raw4)]
/-- What parts answers. -/
def PartsR (p : PkgD) (w : World) (e : Ending) (w' : World) : Prop := ∃ a c, e = .returned (.slice a 6 c) ∧ Parts w' a (partsE p) ∧ Ext w w'
set_option maxRecDepth 100000 in
set_option maxHeartbeats 6400000 in
theorem base_parts0 (p : PkgD) (an ac af au : Option Addr) (cn cc cf cu : Nat) (w : World) (hM : EntM w p ⟨an, ac, af, au, cn, cc, cf, cu⟩) (hS : FitP p) (hU : SumsP p) :
    Calls Tryz.prog 54 #[.agg #[.string (bs p.name), .string (bs p.ver), .slice an p.needs.length cn, .slice ac p.conf.length cc, .slice af p.files.length cf, .slice au p.units.length cu]] w (PartsR p w) := by
  obtain ⟨R, hR⟩ : ∃ R, R = PartsR p w := ⟨_, rfl⟩
  rw [← hR]
  have HR := Lib.hid hR; clear hR
  have HM := Lib.hid hM; clear hM
  obtain ⟨s0, sN, sC, sF, sU⟩ := small_lens hS
  have hnn := hS.nn
  have hnc := hS.nc
  have hnf := hS.nf
  have hnu := hS.nu
  have hnm := hS.name
  have hnv := hS.ver
  have sE := flatE_le p.files
  have HS := Lib.hid hS; clear hS
  have HSU := Lib.hid hU; clear hU
  have hbx := heap_alloc_new w (.cells #[.string (bs p.name), .string (bs p.ver), .slice an p.needs.length cn, .slice ac p.conf.length cc, .slice af p.files.length cf, .slice au p.units.length cu] 37)
  have hx1 : Ext w (w.alloc (.cells #[.string (bs p.name), .string (bs p.ver), .slice an p.needs.length cn, .slice ac p.conf.length cc, .slice af p.files.length cf, .slice au p.units.length cu] 37)) := Ext.alloc _ _
  have HBX := Lib.hid hbx; clear hbx
  have HX1 := Lib.hid hx1; clear hx1
  go_enter Tryz.func54, Tryz.ntmps54
  go_upto_region 2 with (fail)
  generalize w.alloc (.cells #[.string (bs p.name), .string (bs p.ver), .slice an p.needs.length cn, .slice ac p.conf.length cc, .slice af p.files.length cf, .slice au p.units.length cu] 37) = w1 at HBX HX1 ⊢
  have d2 : w1.cell? ⟨w.heap.size, 2, none⟩ = some (.slice an p.needs.length cn) := blk_cell HBX.out 2 _ rfl
  go_wp2_with fail
  clear d2
  go_loopw [3, 19] (fun v i wr => ∃ (D : List By) (a2 : Option Addr) (cap k : Nat), v = .slice a2 D.length cap ∧ i = .int .i64 k ∧ k ≤ p.needs.length ∧ Hid (D = (p.needs.take k).flatMap needP) ∧ Hid (OwnP wr w1.heap.size a2 cap D) ∧ Ext w1 wr) (fun _ i _ => p.needs.length - (intOf i).toNat)
  case atStart => exact ⟨[], none, 0, 0, rfl, rfl, Nat.zero_le _, Lib.hid rfl, Lib.hid (OwnP.nil _ _), Ext.refl _⟩
  case round =>
    obtain ⟨D, a2, cap, k, rfl, rfl, hk, hD, hown, hext⟩ := hrel
    have hsz := hext.size
    by_cases hlt : k < p.needs.length
    · obtain ⟨g, off, rfl, _, h1, h2, h3⟩ := ((HM.out.needs.ext HX1.out).ext hext).at hlt
      have hsm := HS.out.needs _ (getD_memN hlt)
      obtain ⟨m, hm⟩ : ∃ m, m = p.needs.getD k nz := ⟨_, rfl⟩
      rw [← hm] at h1 h2 h3 hsm
      obtain ⟨mn, mk, mv⟩ := m
      simp only at h1 h2 h3 hsm
      obtain ⟨hs1, hs2⟩ := hsm
      have HMM := Lib.hid hm; clear hm
      have hDn : D.length ≤ 16777216 := by rw [hD.out, needP_len, List.length_take]; omega
      go_wp2_with fail
      have n0 := cell_new wr #[.string (bs mn), .int .i64 mk, .string (bs mv)] 68 0 _ rfl
      have n1 := cell_new wr #[.string (bs mn), .int .i64 mk, .string (bs mv)] 68 1 _ rfl
      have n2 := cell_new wr #[.string (bs mn), .int .i64 mk, .string (bs mv)] 68 2 _ rfl
      go_region_held3 (fun w' => w'.cell? ⟨wr.heap.size, 0, none⟩ = some (.string (bs mn)) ∧ w'.cell? ⟨wr.heap.size, 1, none⟩ = some (.int .i64 mk) ∧ w'.cell? ⟨wr.heap.size, 2, none⟩ = some (.string (bs mv)))
        (first | go_keep | exact HC1.out | exact HC2.out | exact HC3.out | exact HC4.out)
        (first
          | (go_at_call_of 77 (Value.string (bs mn)); refine (text_raw mn (by omega) _).mono ?_; rintro e wa ⟨a1, c1, rfl, hown1, hxa⟩; have hwx : Ext wr wa := ((Ext.alloc _ _).drew).trans hxa; have H1 := Lib.hid hown1; clear hown1; have HC1 := Lib.hid (And.intro (hxa.cell n0) (And.intro (hxa.cell n1) (hxa.cell n2))))
          | (go_at_call 78; refine (rec_num _ _).mono ?_; rintro e wb ⟨b2, c2, rfl, hown2, hxb⟩; have H2 := Lib.hid hown2; clear hown2; have HC2 := Lib.hid (And.intro (hxb.cell HC1.out.1) (And.intro (hxb.cell HC1.out.2.1) (hxb.cell HC1.out.2.2))))
          | (go_at_call_of 77 (Value.string (bs mv)); refine (text_raw mv (by omega) _).mono ?_; rintro e wc ⟨b3, c3, rfl, hown3, hxc⟩; have hwy : Ext wr wc := hwx.trans (hxb.trans hxc); have hps := part_three hown.out ((Ext.alloc _ _).drew) H1.out hxa H2.out hxb hown3 hxc; have HPS := Lib.hid hps; clear hps; have HC3 := Lib.hid (And.intro (hxc.cell HC2.out.1) (And.intro (hxc.cell HC2.out.2.1) (hxc.cell HC2.out.2.2))))
          | (refine step_append_parts (by rfl) _ _ (by rfl) w1.heap.size a2 cap D (by rfl) ((hown.out.ext hwy).ext (Ext.alloc _ _)) [.slice a1 (raw4 mn).length c1, .slice b2 (numI mk).length c2, .slice b3 (raw4 mv).length c3] [raw4 mn, numI mk, raw4 mv] wc.heap.size 3 (by rfl) (by rfl) (heap_alloc_new wc _) (HPS.out.keep (Keep.of_ext (Ext.alloc _ _))) (by omega) (by omega) ?_ ?_; (have hs3 := hwy.size; simp; omega); intro g1 cap1 wd hown4 hk4 hb4; have HC4 := Lib.hid (And.intro (hk4.cell (hown.out.old (Nat.le_refl _) _ (Nat.le_refl _)) ((Ext.alloc wc _).cell HC3.out.1)) (And.intro (hk4.cell (hown.out.old (Nat.le_refl _) _ (Nat.le_refl _)) ((Ext.alloc wc _).cell HC3.out.2.1)) (hk4.cell (hown.out.old (Nat.le_refl _) _ (Nat.le_refl _)) ((Ext.alloc wc _).cell HC3.out.2.2))))))
      go_wp2_with fail
      go_roundw
      case rel => exact ⟨D ++ [raw4 mn, numI mk, raw4 mv], some ⟨g1, 0, none⟩, cap1, k + 1, by simp, by go_num, by omega, Lib.hid (by rw [hD.out, need_take hlt, ← HMM.out]; rfl), Lib.hid hown4, ext_below rfl hext (hwy.trans (Ext.alloc wc _)) hb4⟩
      case measure => simp [intOf]; omega
    · have hkk : k = p.needs.length := by omega
      have hD2 := hD.out
      rw [hkk, List.take_length] at hD2
      have HD := Lib.hid hD2; clear hD2 hkk hD
      have HPN := Lib.hid hown.out.parts; clear hown
      have HX2 := Lib.hid (HX1.out.trans hext)
      have HBY := Lib.hid (hext.heap HBX.out)
      have hDm : D.length ≤ 300000 := by rw [HD.out, needP_len]; omega
      obtain ⟨w2, rfl⟩ : ∃ w2 : World, w2 = wr := ⟨_, rfl⟩
      have d3 : w2.cell? ⟨w.heap.size, 3, none⟩ = some (.slice ac p.conf.length cc) := blk_cell HBY.out 3 _ rfl
      go_wp2_with fail
      clear hext hsz hk hlt d3
      go_loopw [4, 39] (fun v i wr => ∃ (E : List By) (a3 : Option Addr) (cap3 k : Nat), v = .slice a3 E.length cap3 ∧ i = .int .i64 k ∧ k ≤ p.conf.length ∧ Hid (E = (p.conf.take k).map raw4) ∧ Hid (OwnP wr w2.heap.size a3 cap3 E) ∧ Ext w2 wr) (fun _ i _ => p.conf.length - (intOf i).toNat)
      case atStart => exact ⟨[], none, 0, 0, rfl, rfl, Nat.zero_le _, Lib.hid rfl, Lib.hid (OwnP.nil _ _), Ext.refl _⟩
      case round =>
        obtain ⟨E, ae3, ce3, k, rfl, rfl, hk, hE, hown3, hext⟩ := hrel
        have hsz := hext.size
        by_cases hlt : k < p.conf.length
        · obtain ⟨g, off, rfl, _, hc⟩ := ((HM.out.conf.ext HX2.out).ext hext).at (by intro e; rw [e] at hlt; simp at hlt)
          have h1 := hc k hlt
          clear hc
          have hsm := HS.out.conf _ (getD_memB hlt)
          obtain ⟨q, hq⟩ : ∃ q, q = p.conf.getD k [] := ⟨_, rfl⟩
          rw [← hq] at h1 hsm
          have HQ := Lib.hid hq; clear hq
          have hEn : E.length ≤ 16777216 := by rw [hE.out, List.length_map, List.length_take]; omega
          go_wp2_with (first
            | (go_at_call 77; refine (text_raw q (by omega) _).mono ?_; rintro e wa ⟨b2, c2, rfl, hown2, hxa⟩; have H2 := Lib.hid hown2; clear hown2; have hps := part_one hown3.out (Ext.refl _) H2.out; have HPS := Lib.hid hps; clear hps)
            | (at_builtin; refine append_parts rfl _ _ rfl w2.heap.size ae3 ce3 E rfl ((hown3.out.ext hxa).ext (Ext.alloc _ _)) [.slice b2 (raw4 q).length c2] [raw4 q] wa.heap.size 1 rfl rfl (heap_alloc_new wa _) (HPS.out.keep (Keep.of_ext (Ext.alloc _ _))) (by omega) (by omega) ?_ ?_; (have hs3 := hxa.size; simp; omega); intro g1 cap1 wd hown4 hk4 hb4))
          go_roundw
          case rel => exact ⟨E ++ [raw4 q], some ⟨g1, 0, none⟩, cap1, k + 1, by simp, by go_num, by omega, Lib.hid (by rw [hE.out, raw_take hlt, ← HQ.out]), Lib.hid hown4, ext_below rfl hext (hxa.trans (Ext.alloc wa _)) hb4⟩
          case measure => simp [intOf]; omega
        · have hkk : k = p.conf.length := by omega
          have hE2 := hE.out
          rw [hkk, List.take_length] at hE2
          have HE := Lib.hid hE2; clear hE2 hkk hE
          have HPE := Lib.hid hown3.out.parts; clear hown3
          have HX3 := Lib.hid (HX2.out.trans hext)
          have HBZ := Lib.hid (hext.heap HBY.out)
          have hEm : E.length ≤ 300000 := by rw [HE.out, List.length_map]; omega
          have HXT2 := Lib.hid hext
          obtain ⟨w3, rfl⟩ : ∃ w3 : World, w3 = wr := ⟨_, rfl⟩
          have d4 : w3.cell? ⟨w.heap.size, 4, none⟩ = some (.slice af p.files.length cf) := blk_cell HBZ.out 4 _ rfl
          go_wp2_with fail
          clear hext hsz hk hlt
          clear d4
          go_loopw [5, 52] (fun v i wr => ∃ (G : List By) (ag : Option Addr) (capg k : Nat), v = .slice ag G.length capg ∧ i = .int .i64 k ∧ k ≤ p.files.length ∧ Hid (G = (p.files.take k).flatMap fileQ) ∧ Hid (OwnP wr w3.heap.size ag capg G) ∧ Ext w3 wr) (fun _ i _ => p.files.length - (intOf i).toNat)
          case atStart => exact ⟨[], none, 0, 0, rfl, rfl, Nat.zero_le _, Lib.hid rfl, Lib.hid (OwnP.nil _ _), Ext.refl _⟩
          case round =>
            obtain ⟨G, ag, capg, k, rfl, rfl, hk, hG, hown, hext⟩ := hrel
            have hsz := hext.size
            by_cases hlt : k < p.files.length
            · obtain ⟨g, off, rfl, _, h1, h2, h3⟩ := ((HM.out.files.ext HX3.out).ext hext).at hlt
              have hsm := HS.out.files _ (getD_memF hlt)
              obtain ⟨m, hm⟩ : ∃ m, m = p.files.getD k fz := ⟨_, rfl⟩
              rw [← hm] at h1 h2 h3 hsm
              obtain ⟨mp, mc, md⟩ := m
              simp only at h1 h2 h3 hsm
              obtain ⟨hs1, hs2⟩ := hsm
              have HMM := Lib.hid hm; clear hm
              have hle := le32_lt md
              have hwr : IntKind.i64.wrap ((le32 md : Nat) : Int) = ((le32 md : Nat) : Int) := IntWalk.i64_in _ (by omega)
              have hGn : G.length ≤ 16777216 := by rw [hG.out, fileQ_len, List.length_take]; omega
              have n0 := cell_new wr #[.string (bs mp), .bool mc, .int .u32 ((le32 md : Nat) : Int)] 71 0 _ rfl
              have n1 := cell_new wr #[.string (bs mp), .bool mc, .int .u32 ((le32 md : Nat) : Int)] 71 1 _ rfl
              have n2 := cell_new wr #[.string (bs mp), .bool mc, .int .u32 ((le32 md : Nat) : Int)] 71 2 _ rfl
              cases mc
              · go_wp2_with fail
                go_region_held3 (fun w' => w'.cell? ⟨wr.heap.size, 0, none⟩ = some (.string (bs mp)) ∧ w'.cell? ⟨wr.heap.size, 2, none⟩ = some (.int .u32 ((le32 md : Nat) : Int)))
                  (first | go_keep | exact HC1.out | exact HC2.out | exact HC3.out | exact HC4.out)
                  (first
                    | (go_at_call 77; refine (text_raw mp (by omega) _).mono ?_; rintro e wa ⟨a1, c1, rfl, hown1, hxa⟩; have hwx : Ext wr wa := ((Ext.alloc _ _).drew).trans hxa; have H1 := Lib.hid hown1; clear hown1; have HC1 := Lib.hid (And.intro (hxa.cell n0) (hxa.cell n2)))
                    | (go_at_call_of 78 (Value.int .i64 (0 : Int)); refine (rec_num _ _).mono ?_; rintro e wb ⟨b2, c2, rfl, hown2, hxb⟩; have H2 := Lib.hid hown2; clear hown2; have HC2 := Lib.hid (And.intro (hxb.cell HC1.out.1) (hxb.cell HC1.out.2)))
                    | (go_at_call_of 78 (Value.int .i64 ((le32 md : Nat) : Int)); refine (rec_num _ _).mono ?_; rintro e wc ⟨b3, c3, rfl, hown3, hxc⟩; have hwy : Ext wr wc := hwx.trans (hxb.trans hxc); have hps := part_three hown.out ((Ext.alloc _ _).drew) H1.out hxa H2.out hxb hown3 hxc; have HPS := Lib.hid hps; clear hps; have HC3 := Lib.hid (And.intro (hxc.cell HC2.out.1) (hxc.cell HC2.out.2)))
                    | (refine step_append_parts (by rfl) _ _ (by rfl) w3.heap.size ag capg G (by rfl) ((hown.out.ext hwy).ext (Ext.alloc _ _)) [.slice a1 (raw4 mp).length c1, .slice b2 (numI (0 : Int)).length c2, .slice b3 (numI ((le32 md : Nat) : Int)).length c3] [raw4 mp, numI (0 : Int), numI ((le32 md : Nat) : Int)] wc.heap.size 3 (by rfl) (by rfl) (heap_alloc_new wc _) (HPS.out.keep (Keep.of_ext (Ext.alloc _ _))) (by omega) (by omega) ?_ ?_; (have hs3 := hwy.size; simp; omega); intro g1 cap1 wd hown4 hk4 hb4; have HC4 := Lib.hid (And.intro (hk4.cell (hown.out.old (Nat.le_refl _) _ (Nat.le_refl _)) ((Ext.alloc wc _).cell HC3.out.1)) (hk4.cell (hown.out.old (Nat.le_refl _) _ (Nat.le_refl _)) ((Ext.alloc wc _).cell HC3.out.2)))))
                go_wp2_with fail
                go_roundw
                case rel => exact ⟨G ++ [raw4 mp, numI (0 : Int), numI ((le32 md : Nat) : Int)], some ⟨g1, 0, none⟩, cap1, k + 1, by simp, by go_num, by omega, Lib.hid (by rw [hG.out, fileQ_take hlt, ← HMM.out]; rfl), Lib.hid hown4, ext_below rfl hext (hwy.trans (Ext.alloc wc _)) hb4⟩
                case measure => simp [intOf]; omega
              · go_wp2_with fail
                go_region_held3 (fun w' => w'.cell? ⟨wr.heap.size, 0, none⟩ = some (.string (bs mp)) ∧ w'.cell? ⟨wr.heap.size, 2, none⟩ = some (.int .u32 ((le32 md : Nat) : Int)))
                  (first | go_keep | exact HC1.out | exact HC2.out | exact HC3.out | exact HC4.out)
                  (first
                    | (go_at_call 77; refine (text_raw mp (by omega) _).mono ?_; rintro e wa ⟨a1, c1, rfl, hown1, hxa⟩; have hwx : Ext wr wa := ((Ext.alloc _ _).drew).trans hxa; have H1 := Lib.hid hown1; clear hown1; have HC1 := Lib.hid (And.intro (hxa.cell n0) (hxa.cell n2)))
                    | (go_at_call_of 78 (Value.int .i64 (1 : Int)); refine (rec_num _ _).mono ?_; rintro e wb ⟨b2, c2, rfl, hown2, hxb⟩; have H2 := Lib.hid hown2; clear hown2; have HC2 := Lib.hid (And.intro (hxb.cell HC1.out.1) (hxb.cell HC1.out.2)))
                    | (go_at_call_of 78 (Value.int .i64 ((le32 md : Nat) : Int)); refine (rec_num _ _).mono ?_; rintro e wc ⟨b3, c3, rfl, hown3, hxc⟩; have hwy : Ext wr wc := hwx.trans (hxb.trans hxc); have hps := part_three hown.out ((Ext.alloc _ _).drew) H1.out hxa H2.out hxb hown3 hxc; have HPS := Lib.hid hps; clear hps; have HC3 := Lib.hid (And.intro (hxc.cell HC2.out.1) (hxc.cell HC2.out.2)))
                    | (refine step_append_parts (by rfl) _ _ (by rfl) w3.heap.size ag capg G (by rfl) ((hown.out.ext hwy).ext (Ext.alloc _ _)) [.slice a1 (raw4 mp).length c1, .slice b2 (numI (1 : Int)).length c2, .slice b3 (numI ((le32 md : Nat) : Int)).length c3] [raw4 mp, numI (1 : Int), numI ((le32 md : Nat) : Int)] wc.heap.size 3 (by rfl) (by rfl) (heap_alloc_new wc _) (HPS.out.keep (Keep.of_ext (Ext.alloc _ _))) (by omega) (by omega) ?_ ?_; (have hs3 := hwy.size; simp; omega); intro g1 cap1 wd hown4 hk4 hb4; have HC4 := Lib.hid (And.intro (hk4.cell (hown.out.old (Nat.le_refl _) _ (Nat.le_refl _)) ((Ext.alloc wc _).cell HC3.out.1)) (hk4.cell (hown.out.old (Nat.le_refl _) _ (Nat.le_refl _)) ((Ext.alloc wc _).cell HC3.out.2)))))
                go_wp2_with fail
                go_roundw
                case rel => exact ⟨G ++ [raw4 mp, numI (1 : Int), numI ((le32 md : Nat) : Int)], some ⟨g1, 0, none⟩, cap1, k + 1, by simp, by go_num, by omega, Lib.hid (by rw [hG.out, fileQ_take hlt, ← HMM.out]; rfl), Lib.hid hown4, ext_below rfl hext (hwy.trans (Ext.alloc wc _)) hb4⟩
                case measure => simp [intOf]; omega
            · have hkk : k = p.files.length := by omega
              have hG2 := hG.out
              rw [hkk, List.take_length] at hG2
              have HG := Lib.hid hG2; clear hG2 hkk hG
              have HPG := Lib.hid hown.out.parts; clear hown
              have HX4 := Lib.hid (HX3.out.trans hext)
              have HBV := Lib.hid (hext.heap HBZ.out)
              have hGm : G.length ≤ 300000 := by rw [HG.out, fileQ_len]; omega
              have HXT3 := Lib.hid hext
              obtain ⟨w4, rfl⟩ : ∃ w4 : World, w4 = wr := ⟨_, rfl⟩
              have d5 : w4.cell? ⟨w.heap.size, 5, none⟩ = some (.slice au p.units.length cu) := blk_cell HBV.out 5 _ rfl
              go_wp2_with fail
              clear hext hsz hk hlt d5
              go_loopw [6, 74] (fun v i wr => ∃ (E : List By) (a3 : Option Addr) (cap3 k : Nat), v = .slice a3 E.length cap3 ∧ i = .int .i64 k ∧ k ≤ p.units.length ∧ Hid (E = (p.units.take k).map raw4) ∧ Hid (OwnP wr w4.heap.size a3 cap3 E) ∧ Ext w4 wr) (fun _ i _ => p.units.length - (intOf i).toNat)
              case atStart => exact ⟨[], none, 0, 0, rfl, rfl, Nat.zero_le _, Lib.hid rfl, Lib.hid (OwnP.nil _ _), Ext.refl _⟩
              case round =>
                obtain ⟨U, ay3, cy3, k, rfl, rfl, hk, hE, hown3, hext⟩ := hrel
                have hsz := hext.size
                by_cases hlt : k < p.units.length
                · obtain ⟨g, off, rfl, _, hc⟩ := ((HM.out.units.ext HX4.out).ext hext).at (by intro e; rw [e] at hlt; simp at hlt)
                  have h1 := hc k hlt
                  clear hc
                  have hsm := HS.out.units _ (getD_memB hlt)
                  obtain ⟨q, hq⟩ : ∃ q, q = p.units.getD k [] := ⟨_, rfl⟩
                  rw [← hq] at h1 hsm
                  have HQ := Lib.hid hq; clear hq
                  have hEn : U.length ≤ 16777216 := by rw [hE.out, List.length_map, List.length_take]; omega
                  go_wp2_with (first
                    | (go_at_call 77; refine (text_raw q (by omega) _).mono ?_; rintro e wa ⟨b2, c2, rfl, hown2, hxa⟩; have H2 := Lib.hid hown2; clear hown2; have hps := part_one hown3.out (Ext.refl _) H2.out; have HPS := Lib.hid hps; clear hps)
                    | (at_builtin; refine append_parts rfl _ _ rfl w4.heap.size ay3 cy3 U rfl ((hown3.out.ext hxa).ext (Ext.alloc _ _)) [.slice b2 (raw4 q).length c2] [raw4 q] wa.heap.size 1 rfl rfl (heap_alloc_new wa _) (HPS.out.keep (Keep.of_ext (Ext.alloc _ _))) (by omega) (by omega) ?_ ?_; (have hs3 := hxa.size; simp; omega); intro g1 cap1 wd hown4 hk4 hb4))
                  go_roundw
                  case rel => exact ⟨U ++ [raw4 q], some ⟨g1, 0, none⟩, cap1, k + 1, by simp, by go_num, by omega, Lib.hid (by rw [hE.out, raw_take hlt, ← HQ.out]), Lib.hid hown4, ext_below rfl hext (hxa.trans (Ext.alloc wa _)) hb4⟩
                  case measure => simp [intOf]; omega
                · have hkk : k = p.units.length := by omega
                  have hE2 := hE.out
                  rw [hkk, List.take_length] at hE2
                  have HU := Lib.hid hE2; clear hE2 hkk hE
                  have HPU := Lib.hid hown3.out.parts; clear hown3
                  have HX5 := Lib.hid (HX4.out.trans hext)
                  have HBW := Lib.hid (hext.heap HBV.out)
                  have hUm : U.length ≤ 300000 := by rw [HU.out, List.length_map]; omega
                  have HXT4 := Lib.hid hext
                  obtain ⟨w5, rfl⟩ : ∃ w5 : World, w5 = wr := ⟨_, rfl⟩
                  skip
                  go_wp2_with fail
                  clear hext hsz hk hlt
                  have HPN2 := Lib.hid (HPN.out.ext (HXT2.out.trans (HXT3.out.trans HXT4.out)))
                  have HPE2 := Lib.hid (HPE.out.ext (HXT3.out.trans HXT4.out))
                  have HPG2 := Lib.hid (HPG.out.ext HXT4.out)
                  have d0 : w5.cell? ⟨w.heap.size, 0, none⟩ = some (.string (bs p.name)) := blk_cell HBW.out 0 _ rfl
                  have d1 : w5.cell? ⟨w.heap.size, 1, none⟩ = some (.string (bs p.ver)) := blk_cell HBW.out 1 _ rfl
                  have eD : D.flatten = p.needs.flatMap needB := by rw [HD.out, flat_needs]
                  have eE : E.flatten = p.conf.flatMap raw4 := by rw [HE.out, flat_raws]
                  have eG : G.flatten = p.files.flatMap fileE := by rw [HG.out, flat_filesE HSU.out]
                  have eU : U.flatten = p.units.flatMap raw4 := by rw [HU.out, flat_raws]
                  have hDf : D.flatten.length ≤ 16777216 := by rw [eD]; omega
                  have hEf : E.flatten.length ≤ 16777216 := by rw [eE]; omega
                  have hGf : G.flatten.length ≤ 16777216 := by rw [eG]; omega
                  have hUf : U.flatten.length ≤ 16777216 := by rw [eU]; omega
                  have HEQ := Lib.hid (And.intro eD (And.intro eE (And.intro eG eU))); clear eD eE eG eU
                  go_region_held3 (fun w' => w'.cell? ⟨w.heap.size, 0, none⟩ = some (.string (bs p.name)) ∧ w'.cell? ⟨w.heap.size, 1, none⟩ = some (.string (bs p.ver)))
                    (first | go_keep | exact K1.out | exact K2.out | exact K3.out | exact K4.out | exact K5.out | exact K6.out | exact K7.out)
                    (first
                      | (go_at_call_of 77 (Value.string (bs p.name)); refine (text_raw p.name (by omega) _).mono ?_; rintro e w1z ⟨p1, q1, rfl, o1, x1⟩; have y1 : Ext w5 w1z := (by first | exact x1 | exact (Ext.refl w5).drew.trans x1); have O1 := Lib.hid o1.bytes.1; clear o1; have K1 := Lib.hid (And.intro (y1.cell d0) (y1.cell d1)))
                      | (go_at_call_of 77 (Value.string (bs p.ver)); refine (text_raw p.ver (by omega) _).mono ?_; rintro e w2z ⟨p2, q2, rfl, o2, x2⟩; have O2 := Lib.hid o2.bytes.1; clear o2; have K2 := Lib.hid (And.intro (x2.cell K1.out.1) (x2.cell K1.out.2)))
                      | (go_at_call_of 79 (Value.slice a2 D.length cap); refine (rec_list _ _ _ _ (HPN2.out.ext (y1.trans x2)) (by omega) (by omega)).mono ?_; rintro e w3z ⟨p3, q3, rfl, o3, x3⟩; have O3 := Lib.hid o3.bytes.1; clear o3; have K3 := Lib.hid (And.intro (x3.cell K2.out.1) (x3.cell K2.out.2)))
                      | (go_at_call_of 79 (Value.slice ae3 E.length ce3); refine (rec_list _ _ _ _ (HPE2.out.ext (y1.trans (x2.trans x3))) (by omega) (by omega)).mono ?_; rintro e w4z ⟨p4, q4, rfl, o4, x4⟩; have O4 := Lib.hid o4.bytes.1; clear o4; have K4 := Lib.hid (And.intro (x4.cell K3.out.1) (x4.cell K3.out.2)))
                      | (go_at_call_of 79 (Value.slice ag G.length capg); refine (rec_list _ _ _ _ (HPG2.out.ext (y1.trans (x2.trans (x3.trans x4)))) (by omega) (by omega)).mono ?_; rintro e w5z ⟨p5, q5, rfl, o5, x5⟩; have O5 := Lib.hid o5.bytes.1; clear o5; have K5 := Lib.hid (And.intro (x5.cell K4.out.1) (x5.cell K4.out.2)))
                      | (go_at_call_of 79 (Value.slice ay3 U.length cy3); refine (rec_list _ _ _ _ (HPU.out.ext (y1.trans (x2.trans (x3.trans (x4.trans x5))))) (by omega) (by omega)).mono ?_; rintro e w6z ⟨p6, q6, rfl, o6, x6⟩; have O6 := Lib.hid o6.bytes.1; clear o6; have HPS := Lib.hid (parts_six (q1 := q1) (q2 := q2) (q3 := q3) (q4 := q4) (q5 := q5) (q6 := q6) (O1.out.ext (x2.trans (x3.trans (x4.trans (x5.trans x6))))) (O2.out.ext (x3.trans (x4.trans (x5.trans x6)))) (O3.out.ext (x4.trans (x5.trans x6))) (O4.out.ext (x5.trans x6)) (O5.out.ext x6) O6.out); have K6 := Lib.hid (And.intro (x6.cell K5.out.1) (x6.cell K5.out.2))))
                  go_wp2_with fail
                  rw [HR.out]
                  have hxy : ∀ o, Ext w (w6z.alloc o) := fun o => HX5.out.trans (y1.trans (x2.trans (x3.trans (x4.trans (x5.trans (x6.trans (Ext.alloc w6z o)))))))
                  obtain ⟨eD, eE, eG, eU⟩ := HEQ.out
                  have ePK : partsE p = [raw4 p.name, raw4 p.ver, raw4 D.flatten, raw4 E.flatten, raw4 G.flatten, raw4 U.flatten] := by rw [eD, eE, eG, eU]; rfl
                  refine ⟨_, 6, rfl, ?_, hxy _⟩
                  rw [ePK]
                  exact HPS.out
end Go.Proofs.YtnclibfhbngkjaaGreatDoor
