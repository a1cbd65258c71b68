/-
  The branches of made's Dice.Code, each by itself.
  Conditions: the dice and the operation lie in memory.
-/
import Derived.Test.YtkggmckfdkpldaaDoorFdC
namespace Go.Proofs.YtkggmckfdkpldaaDoor
open Go.RowKit

set_option maxHeartbeats 6400000 in
set_option maxRecDepth 100000 in
theorem mk30 {dd cb ob n k r : Nat} {xs : List Int} {wn wo : World} {Q : Exit → Act → World → Prop} {s1 s2 s3 s4 s9 s10 s11 s12 s13 s14 s15 s16 s17 s18 s19 s20 s21 s22 s23 s24 s25 s26 s27 s28 s29 s30 s31 s32 s33 s34 s35 s36 s37 s38 s39 s40 s41 s42 s43 s44 s45 s46 s47 s48 s49 s50 s51 s52 s53 s54 s55 s56 s57 s58 s59 s60 s61 s62 s63 s64 s65 s66 s67 s68 s69 s70 s71 s72 s73 s74 s75 s76 s77 s78 s79 s80 s81 s82 s83 s84 s85 s86 s87 s88 s89 s90 s91 s92 s93 s94 s95 s96 s97 s98 s99 s100 s101 s102 s103 s104 s105 s106 s107 s108 s109 s110 s111 s112 s113 s114 s115 s116 s117 s118 s119 s120 s121 s122 s123 s124 s125 s126 s127 s128 s129 s130 s131 s132 s133 s134 s135 s136 s137 s138 s139 s140 s141 s142 s143 s144 s145 s146 s147 s148 s149 s150 s151 s152 s153 s154 s155 s156 s157 s158 s159 s160 s161 s162 s163 s164 s165 s166 s167 s168 s169 s170 s171 s172 s173 s174 s175 s176 s177 s178 s179 s180 s181 s182 s183 s184 s185 s186 s187 s188 s189 s190 s191 s192 s193 s194 s195 s196 s197 s198 s199 s200 s201 s202 s203 s204 s205 s206 s207 s208 : Value} {cd : Code} (hcode : (Tryd.f9.body.map (subC [1, 1, 1, 0, 1, 0, 0, 1, 0, 0, 1, 0, 1, 0, 1, 1, 1, 1, 1, 1, 1, 1, 1, 0])) = some cd)
    (hr1 : 1 ≤ r) (hr2 : r ≤ 200) (hn2 : n ≤ 14) (hlt : k < n) (hdo : dd < ob) (hno : wn.heap.size ≤ ob) (hob : ob ≤ wn.heap.size) (hcd : cb ≠ dd) (hco : cb < ob) (hom : Om dd ob xs wn wo (iv 14) (iv 0) (iv 0) (iv 0) (.slice none 0 0) (sv [])) (hcr : wo.cell? ⟨cb, 1, none⟩ = some (iv r))
    (hQ : ∀ (x9 x10 x32 x33 x34 x35 x36 x37 x38 x39 x40 x41 x42 x43 x44 x45 x46 x47 x48 x49 x50 x51 x52 x53 x54 x55 x56 x57 x58 x59 x60 x61 x62 x63 x64 x65 x66 x67 x68 x69 x70 x71 x72 x73 x74 x75 x76 x77 x78 x79 x80 x81 x82 x83 x84 x85 x86 x87 x88 x89 x90 x91 x92 x93 x94 x95 x96 x97 x98 x99 x100 x101 x102 x103 x104 x105 x106 x107 x108 x109 x110 x111 x112 x113 x114 x115 x116 x117 x118 x119 x120 x121 x122 x123 x124 x125 x126 x127 x128 x129 x130 x131 x132 x133 x134 x135 x136 x137 x138 x139 x140 x141 x142 x143 x144 x145 x146 x147 x148 x149 x150 x151 x152 x153 x154 x155 x156 x157 x158 x159 x160 x161 x162 x163 x164 x165 x166 x167 x168 x169 x170 x171 x172 x173 x174 x175 x176 x177 x178 x179 x180 x181 x182 x183 x184 x185 x186 x187 x188 x189 x190 x191 : Value) (w' : World), OpMk dd ob xs wn w' → Q .normal ⟨#[.pointer (some ⟨dd, 0, none⟩), s1, s2, s3, s4, .int .i64 (n : Int), .pointer (some ⟨cb, 0, none⟩), .int .i64 (k : Int), .pointer (some ⟨ob, 0, none⟩), x9, x10, s11, s12, s13, s14, s15, s16, s17, s18, s19, s20, s21, s22, s23, s24, s25, s26, s27, s28, s29, s30, s31, x32, x33, x34, x35, x36, x37, x38, x39, x40, x41, x42, x43, x44, x45, x46, x47, x48, x49, x50, x51, x52, x53, x54, x55, x56, x57, x58, x59, x60, x61, x62, x63, x64, x65, x66, x67, x68, x69, x70, x71, x72, x73, x74, x75, x76, x77, x78, x79, x80, x81, x82, x83, x84, x85, x86, x87, x88, x89, x90, x91, x92, x93, x94, x95, x96, x97, x98, x99, x100, x101, x102, x103, x104, x105, x106, x107, x108, x109, x110, x111, x112, x113, x114, x115, x116, x117, x118, x119, x120, x121, x122, x123, x124, x125, x126, x127, x128, x129, x130, x131, x132, x133, x134, x135, x136, x137, x138, x139, x140, x141, x142, x143, x144, x145, x146, x147, x148, x149, x150, x151, x152, x153, x154, x155, x156, x157, x158, x159, x160, x161, x162, x163, x164, x165, x166, x167, x168, x169, x170, x171, x172, x173, x174, x175, x176, x177, x178, x179, x180, x181, x182, x183, x184, x185, x186, x187, x188, x189, x190, x191, s192, s193, s194, s195, s196, s197, s198, s199, s200, s201, s202, s203, s204, s205, s206, s207, s208], []⟩ w') :
    cd.wp Tryd.prog Q ⟨#[.pointer (some ⟨dd, 0, none⟩), s1, s2, s3, s4, .int .i64 (n : Int), .pointer (some ⟨cb, 0, none⟩), .int .i64 (k : Int), .pointer (some ⟨ob, 0, none⟩), s9, s10, s11, s12, s13, s14, s15, s16, s17, s18, s19, s20, s21, s22, s23, s24, s25, s26, s27, s28, s29, s30, s31, s32, s33, s34, s35, s36, s37, s38, s39, s40, s41, s42, s43, s44, s45, s46, s47, s48, s49, s50, s51, s52, s53, s54, s55, s56, s57, s58, s59, s60, s61, s62, s63, s64, s65, s66, s67, s68, s69, s70, s71, s72, s73, s74, s75, s76, s77, s78, s79, s80, s81, s82, s83, s84, s85, s86, s87, s88, s89, s90, s91, s92, s93, s94, s95, s96, s97, s98, s99, s100, s101, s102, s103, s104, s105, s106, s107, s108, s109, s110, s111, s112, s113, s114, s115, s116, s117, s118, s119, s120, s121, s122, s123, s124, s125, s126, s127, s128, s129, s130, s131, s132, s133, s134, s135, s136, s137, s138, s139, s140, s141, s142, s143, s144, s145, s146, s147, s148, s149, s150, s151, s152, s153, s154, s155, s156, s157, s158, s159, s160, s161, s162, s163, s164, s165, s166, s167, s168, s169, s170, s171, s172, s173, s174, s175, s176, s177, s178, s179, s180, s181, s182, s183, s184, s185, s186, s187, s188, s189, s190, s191, s192, s193, s194, s195, s196, s197, s198, s199, s200, s201, s202, s203, s204, s205, s206, s207, s208], []⟩ wo := by
  obtain ⟨i1, hi1, hy0, hy1, hy2⟩ := info_parts infoI
  have hcode2 : some _ = some cd := hcode
  obtain rfl := Option.some.inj hcode2
  clear hcode hcode2
  conv in (subC _ _) => whnf
  have HQ := Lib.hid hQ
  clear hQ
  have HOM := Lib.hid hom
  have HCR := Lib.hid hcr
  clear hom hcr
  have g1 := HCR.out
  go_wp2_with fail
  refine (next_any r dd xs _ (by omega) (by omega) HOM.out.dice).mono ?_
  rintro e w3 ⟨a, ha, rfl, hT, hK⟩
  have HOM3 := Lib.hid (HOM.out.thrown hT hK (by omega))
  have HCR3 := Lib.hid (cr_kp HCR.out hK hcd)
  clear hT hK
  have hdl3 := HOM3.out.dice.lt
  have HOMC := Lib.hid (HOM3.out.below ((Below.refl _ _).alloc (Nat.le_refl _) (.cells #[sv [102], sv [103], sv [104]] 9)))
  have HCRC : Hid ((w3.alloc (.cells #[sv [102], sv [103], sv [104]] 9)).cell? ⟨cb, 1, none⟩ = some (iv r)) := Lib.hid (by
    have g2 := HCR3.out
    exact ((((Below.refl _ w3).alloc (Nat.le_refl _) _).cell (block_lt_of_cell g2)).trans g2))
  have HROW := Lib.hid (row_lit w3 #[sv [102], sv [103], sv [104]] 9 [[102], [103], [104]] rfl dd hdl3)
  go_wp2_with fail
  refine (of_any [[102], [103], [104]] _ 3 dd xs _ (by decide) (by decide) HOMC.out.dice HROW.out).mono ?_
  rintro e w4 ⟨sx, hsx, rfl, hT, hK⟩
  have HOM4 := Lib.hid (HOMC.out.thrown hT hK (by omega))
  have HCR4 := Lib.hid (cr_kp HCRC.out hK hcd)
  have hsl : sx.length ≤ 1 := by
    simp only [List.mem_cons, List.not_mem_nil, or_false] at hsx
    rcases hsx with rfl | rfl | rfl <;> decide
  clear hT hK hsx HOMC HROW HCRC
  obtain ⟨z0, z1, z2, z3, z4, z5⟩ := HOM4.out.z
  have f1 := HOM4.out.f 1
  have f2 := HOM4.out.f 2
  have f3 := HOM4.out.f 3
  have f4 := HOM4.out.f 4
  have f5 := HOM4.out.f 5
  have HOM5 := Lib.hid ((HOM4.out.set (o := 1) (x := iv a) hdo hno rfl).set (o := 5) (x := sv sx) hdo hno rfl)
  have HCR5 : Hid (((w4.setCell ⟨ob, 1, none⟩ (iv a)).setCell ⟨ob, 5, none⟩ (sv sx)).cell? ⟨cb, 1, none⟩ = some (iv r)) := Lib.hid (by
    have g2 := HCR4.out
    have hcb : cb ≠ ob := by omega
    exact ((keptSet2 w4 ob 1 5 (iv a) (sv sx)).kept (S := fun y => y = cb) (fun b hb => by subst hb; exact ⟨block_lt_of_cell g2, hcb⟩) ⟨cb, 1, none⟩ rfl).trans g2)
  go_wp2_with fail
  refine (next_any 3 dd xs _ (by decide) (by decide) HOM5.out.dice).mono ?_
  rintro e w6 ⟨j0, hj0, rfl, hT, hK⟩
  have HOM6 := Lib.hid (HOM5.out.thrown hT hK (by omega))
  have HCR6 := Lib.hid (cr_kp HCR5.out hK hcd)
  clear hT hK
  try clear z0 z1 z2 z3 z4 z5 f1 f2 f3 f4 f5
  go_wp2_with fail
  go_loopg [9] j0 (fun g i wx => ∃ (j : Nat) (l : List Int) (v : Value), i = .int .i64 j ∧ g = j ∧ j + l.length ≤ 2 ∧ (∀ z ∈ l, I64f z) ∧ wx.ownsRow (ob + 1) 3 1 v l.length (l.map iv) ∧ Om dd ob xs wn wx (iv 14) (iv a) (iv 0) (iv 0) v (sv sx) ∧ wx.cell? ⟨cb, 1, none⟩ = some (iv r))
  case atStart => exact ⟨j0, [], .slice none 0 0, rfl, rfl, by simp; omega, by simp, World.ownsRow_nil _ _ _ _, HOM6.out, HCR6.out⟩
  case round =>
    obtain ⟨j, l, v, rfl, rfl, hjl, hlf, hlo, homl, hcl⟩ := hrel
    obtain ⟨LA, lc, rfl, _⟩ := own_slice hlo
    obtain ⟨m, hm⟩ : ∃ m, m = l.length := ⟨_, rfl⟩
    rw [← hm] at hjl hlo homl
    have HLM := Lib.hid hm
    have HLO := Lib.hid hlo
    have HLF := Lib.hid hlf
    have HOML := Lib.hid homl
    have HCL := Lib.hid hcl
    clear hlo hlf homl hcl hm HOM6 HCR6
    by_cases hj : 0 < gk
    · obtain ⟨z0, z1, z2, z3, z4, z5⟩ := HOML.out.z
      have g1 := HCL.out
      have hgz : (0 : Int) < (gk : Int) := by omega
      go_wp2_with fail
      refine wp_region_mix (fun u => u.cell? ⟨cb, 1, none⟩ = some (iv r) ∧ u.cell? ⟨ob, 4, none⟩ = some (.slice LA m lc)) [(true, 0), (true, 1), (true, 2), (true, 3), (true, 4), (false, 5), (false, 6)] [7, 8, 9] (by kernel_rfl) (by kernel_rfl) ⟨g1, z4⟩ ?hl14
      case hl14 =>
      simp only [mixAt, List.filterMap_cons, List.filterMap_nil, List.getElem?_toArray, List.getElem?_cons_succ, List.getElem?_cons_zero, Option.map_some]
      refine wpMix_load ?vla140 rfl (fun w' hS => ?yla140) ?kla140
      case yla140 =>
        obtain ⟨g0, g1⟩ := hS
        go_simp
        try rfl
      case kla140 =>
      go_simp
      refine wpMix_load ?vla141 rfl (fun w' hS => ?yla141) ?kla141
      case yla141 =>
        obtain ⟨g0, g1⟩ := hS
        go_simp
        try rfl
      case kla141 =>
      go_simp
      refine wpMix_load ?vla142 rfl (fun w' hS => ?yla142) ?kla142
      case yla142 =>
        obtain ⟨g0, g1⟩ := hS
        go_simp
        try rfl
      case kla142 =>
      go_simp
      refine wpMix_load ?vla143 rfl (fun w' hS => ?yla143) ?kla143
      case yla143 =>
        obtain ⟨g0, g1⟩ := hS
        go_simp
        try rfl
      case kla143 =>
      go_simp
      refine wpMix_load ?vla144 rfl (fun w' hS => ?yla144) ?kla144
      case yla144 =>
        obtain ⟨g0, g1⟩ := hS
        go_simp
        try rfl
      case kla144 =>
      go_simp
      have HOMD := Lib.hid (HOML.out.below (Below.refl _ _).drew)
      have HCRD : Hid (wr.drew.cell? ⟨cb, 1, none⟩ = some (iv r)) := Lib.hid HCL.out
      clear z0 z1 z2 z3 z4 z5 g1
      refine wpMix_keep rfl ?_
      go_wp2_with fail
      refine (next_any r dd xs _ (by omega) (by omega) HOMD.out.dice).mono ?_
      rintro e w7 ⟨zz, hzz, rfl, hT, hK⟩
      have HOM7 := Lib.hid (HOMD.out.thrown hT hK (by omega))
      have HCR7 := Lib.hid (cr_kp HCRD.out hK hcd)
      have hown7 := Kp.own hK HLO.out (fun g hg e => by have := (HLO.out.lt g hg).1; omega)
      refine ⟨⟨HCR7.out, HOM7.out.z.2.2.2.2.1⟩, ?_⟩
      clear hT hK HOMD HCRD
      refine wpMix_keep rfl ?_
      go_wp2_with fail
      have hba8 : Below w7.heap.size w7 (w7.alloc (.cells #[iv zz] 3)) := (Below.refl _ _).alloc (Nat.le_refl _) _
      have HOM8 := Lib.hid (HOM7.out.below hba8)
      have HCR8 : Hid ((w7.alloc (.cells #[iv zz] 3)).cell? ⟨cb, 1, none⟩ = some (iv r)) := Lib.hid (by
        have g2 := HCR7.out
        exact (hba8.cell (block_lt_of_cell g2)).trans g2)
      refine ⟨⟨HCR8.out, HOM8.out.z.2.2.2.2.1⟩, ?_⟩
      have hown8 := hown7.alloc (.cells #[iv zz] 3)
      have hnew8 := World.news_of_block (cs := #[iv zz]) (alloc1 w7 (.cells #[iv zz] 3))
      have hlt7 := lt_of_heap HOM7.out.heap
      clear hba8 HOM7 HCR7 hown7
      refine wpMix_nil ?_
      simp only [opsAt, List.filterMap_cons, List.filterMap_nil, List.getElem?_toArray, List.getElem?_cons_succ, List.getElem?_cons_zero]
      refine wpList_append_own _ rfl (.tmp 128) (.tmp 133) 22 rfl (ob + 1) 3 i1 (.int .i64 0) 1 8 Tryd.underlying22 hi1 hy0 hy1 hy2 rfl (by decide) _ m _ rfl hown8 ⟨w7.heap.size, 0, none⟩ 1 1 [iv zz] rfl rfl ?c1 ?c2 ?c3 ?c4 ?c5 ?_
      case c1 => exact hnew8
      case c2 =>
        intro u hu
        rw [List.mem_singleton.1 hu]
        rfl
      case c3 => unfold maxLen; omega
      case c4 => omega
      case c5 => simp; omega
      intro v' w9 hown9 hgrow _
      obtain ⟨VA, vc, rfl, _⟩ := own_slice hown9
      have hob9 : ∀ g, (Value.slice LA m lc).ownBlock = some g → ob < g := fun g hg => by have := (hown8.lt g hg).1; omega
      have HOM9 := Lib.hid (HOM8.out.grown hgrow hob9 hdo hno)
      have HCR9 : Hid (w9.cell? ⟨cb, 1, none⟩ = some (iv r)) := Lib.hid (by
        have g2 := HCR8.out
        have hcb : cb < ob := by omega
        exact (keptGrown hgrow (S := fun y => y = cb) (fun b hb => by subst hb; exact ⟨block_lt_of_cell g2, fun e => by have := hob9 b e.symm; omega⟩) ⟨cb, 1, none⟩ rfl).trans g2)
      have HO9 := Lib.hid hown9
      clear hown8 hnew8 hgrow hown9 HOM8 HCR8 hob9
      obtain ⟨z0, z1, z2, z3, z4, z5⟩ := HOM9.out.z
      have f1 := HOM9.out.f 1
      have f2 := HOM9.out.f 2
      have f3 := HOM9.out.f 3
      have f4 := HOM9.out.f 4
      have f5 := HOM9.out.f 5
      go_wp2
      refine NoPanic.normal ?_
      go_wp2
      go_roundg (gk - 1)
      case measure => omega
      case rel =>
        refine ⟨gk - 1, l ++ [(zz : Int)], .slice VA (m + 1) vc, by go_num, rfl, by rw [List.length_append, ← HLM.out]; simp; omega, fun y hy => ?_, ?_, HOM9.out.set (o := 4) hdo hno rfl, ?_⟩
        · rcases List.mem_append.1 hy with hy | hy
          · exact HLF.out y hy
          · rw [List.mem_singleton.1 hy]
            exact (i64small (by omega) (by omega))
        · have h := HO9.out.kept (grownSet (b := ob) (o := 4) (v := .slice VA (m + 1) vc)) (by
            cases hv : (Value.slice VA (m + 1) vc).ownBlock with
            | none => exact .inl rfl
            | some g => exact .inr fun e => by have := (HO9.out.lt g hv).1; have := Option.some.inj e; omega)
          rw [List.length_append, ← HLM.out, List.map_append]
          exact h
        · have g2 := HCR9.out
          have hcb : cb ≠ ob := by omega
          exact ((setKp ob 4 w9 (.slice VA (m + 1) vc)).kept (S := fun y => y = cb) (fun b hb => by subst hb; exact ⟨block_lt_of_cell g2, hcb⟩) ⟨cb, 1, none⟩ rfl).trans g2
    · obtain rfl : gk = 0 := by omega
      go_wp2
      refine HQ.out _ _ _ _ _ _ _ _ _ _ _ _ _ _ _ _ _ _ _ _ _ _ _ _ _ _ _ _ _ _ _ _ _ _ _ _ _ _ _ _ _ _ _ _ _ _ _ _ _ _ _ _ _ _ _ _ _ _ _ _ _ _ _ _ _ _ _ _ _ _ _ _ _ _ _ _ _ _ _ _ _ _ _ _ _ _ _ _ _ _ _ _ _ _ _ _ _ _ _ _ _ _ _ _ _ _ _ _ _ _ _ _ _ _ _ _ _ _ _ _ _ _ _ _ _ _ _ _ _ _ _ _ _ _ _ _ _ _ _ _ _ _ _ _ _ _ _ _ _ _ _ _ _ _ _ _ _ _ _ _ _ _ _ ?_
      exact HOML.out.done (i64small (by decide) (by decide)) (i64small (by omega) (by omega)) (i64small (by decide) (by decide)) (i64small (by decide) (by decide)) HLF.out (by rw [← HLM.out]; omega) hsl HLM.out (Row.ofOwn HLO.out fun g _ h3 h4 => ⟨by omega, h4, by omega⟩)
set_option maxHeartbeats 6400000 in
set_option maxRecDepth 100000 in
theorem mk36 {dd cb ob n k r : Nat} {xs : List Int} {wn wo : World} {Q : Exit → Act → World → Prop} {s1 s2 s3 s4 s9 s10 s11 s12 s13 s14 s15 s16 s17 s18 s19 s20 s21 s22 s23 s24 s25 s26 s27 s28 s29 s30 s31 s32 s33 s34 s35 s36 s37 s38 s39 s40 s41 s42 s43 s44 s45 s46 s47 s48 s49 s50 s51 s52 s53 s54 s55 s56 s57 s58 s59 s60 s61 s62 s63 s64 s65 s66 s67 s68 s69 s70 s71 s72 s73 s74 s75 s76 s77 s78 s79 s80 s81 s82 s83 s84 s85 s86 s87 s88 s89 s90 s91 s92 s93 s94 s95 s96 s97 s98 s99 s100 s101 s102 s103 s104 s105 s106 s107 s108 s109 s110 s111 s112 s113 s114 s115 s116 s117 s118 s119 s120 s121 s122 s123 s124 s125 s126 s127 s128 s129 s130 s131 s132 s133 s134 s135 s136 s137 s138 s139 s140 s141 s142 s143 s144 s145 s146 s147 s148 s149 s150 s151 s152 s153 s154 s155 s156 s157 s158 s159 s160 s161 s162 s163 s164 s165 s166 s167 s168 s169 s170 s171 s172 s173 s174 s175 s176 s177 s178 s179 s180 s181 s182 s183 s184 s185 s186 s187 s188 s189 s190 s191 s192 s193 s194 s195 s196 s197 s198 s199 s200 s201 s202 s203 s204 s205 s206 s207 s208 : Value} {cd : Code} (hcode : (Tryd.f9.body.map (subC [1, 1, 1, 0, 1, 0, 0, 1, 0, 0, 1, 0, 1, 0, 1, 1, 1, 1, 1, 1, 1, 1, 1, 1, 1, 0])) = some cd)
    (hr1 : 1 ≤ r) (hr2 : r ≤ 200) (hn2 : n ≤ 14) (hlt : k < n) (hdo : dd < ob) (hno : wn.heap.size ≤ ob) (hob : ob ≤ wn.heap.size) (hcd : cb ≠ dd) (hco : cb < ob) (hom : Om dd ob xs wn wo (iv 15) (iv 0) (iv 0) (iv 0) (.slice none 0 0) (sv [])) (hcr : wo.cell? ⟨cb, 1, none⟩ = some (iv r))
    (hQ : ∀ (x9 x10 x32 x33 x34 x35 x36 x37 x38 x39 x40 x41 x42 x43 x44 x45 x46 x47 x48 x49 x50 x51 x52 x53 x54 x55 x56 x57 x58 x59 x60 x61 x62 x63 x64 x65 x66 x67 x68 x69 x70 x71 x72 x73 x74 x75 x76 x77 x78 x79 x80 x81 x82 x83 x84 x85 x86 x87 x88 x89 x90 x91 x92 x93 x94 x95 x96 x97 x98 x99 x100 x101 x102 x103 x104 x105 x106 x107 x108 x109 x110 x111 x112 x113 x114 x115 x116 x117 x118 x119 x120 x121 x122 x123 x124 x125 x126 x127 x128 x129 x130 x131 x132 x133 x134 x135 x136 x137 x138 x139 x140 x141 x142 x143 x144 x145 x146 x147 x148 x149 x150 x151 x152 x153 x154 x155 x156 x157 x158 x159 x160 x161 x162 x163 x164 x165 x166 x167 x168 x169 x170 x171 x172 x173 x174 x175 x176 x177 x178 x179 x180 x181 x182 x183 x184 x185 x186 x187 x188 x189 x190 x191 : Value) (w' : World), OpMk dd ob xs wn w' → Q .normal ⟨#[.pointer (some ⟨dd, 0, none⟩), s1, s2, s3, s4, .int .i64 (n : Int), .pointer (some ⟨cb, 0, none⟩), .int .i64 (k : Int), .pointer (some ⟨ob, 0, none⟩), x9, x10, s11, s12, s13, s14, s15, s16, s17, s18, s19, s20, s21, s22, s23, s24, s25, s26, s27, s28, s29, s30, s31, x32, x33, x34, x35, x36, x37, x38, x39, x40, x41, x42, x43, x44, x45, x46, x47, x48, x49, x50, x51, x52, x53, x54, x55, x56, x57, x58, x59, x60, x61, x62, x63, x64, x65, x66, x67, x68, x69, x70, x71, x72, x73, x74, x75, x76, x77, x78, x79, x80, x81, x82, x83, x84, x85, x86, x87, x88, x89, x90, x91, x92, x93, x94, x95, x96, x97, x98, x99, x100, x101, x102, x103, x104, x105, x106, x107, x108, x109, x110, x111, x112, x113, x114, x115, x116, x117, x118, x119, x120, x121, x122, x123, x124, x125, x126, x127, x128, x129, x130, x131, x132, x133, x134, x135, x136, x137, x138, x139, x140, x141, x142, x143, x144, x145, x146, x147, x148, x149, x150, x151, x152, x153, x154, x155, x156, x157, x158, x159, x160, x161, x162, x163, x164, x165, x166, x167, x168, x169, x170, x171, x172, x173, x174, x175, x176, x177, x178, x179, x180, x181, x182, x183, x184, x185, x186, x187, x188, x189, x190, x191, s192, s193, s194, s195, s196, s197, s198, s199, s200, s201, s202, s203, s204, s205, s206, s207, s208], []⟩ w') :
    cd.wp Tryd.prog Q ⟨#[.pointer (some ⟨dd, 0, none⟩), s1, s2, s3, s4, .int .i64 (n : Int), .pointer (some ⟨cb, 0, none⟩), .int .i64 (k : Int), .pointer (some ⟨ob, 0, none⟩), s9, s10, s11, s12, s13, s14, s15, s16, s17, s18, s19, s20, s21, s22, s23, s24, s25, s26, s27, s28, s29, s30, s31, s32, s33, s34, s35, s36, s37, s38, s39, s40, s41, s42, s43, s44, s45, s46, s47, s48, s49, s50, s51, s52, s53, s54, s55, s56, s57, s58, s59, s60, s61, s62, s63, s64, s65, s66, s67, s68, s69, s70, s71, s72, s73, s74, s75, s76, s77, s78, s79, s80, s81, s82, s83, s84, s85, s86, s87, s88, s89, s90, s91, s92, s93, s94, s95, s96, s97, s98, s99, s100, s101, s102, s103, s104, s105, s106, s107, s108, s109, s110, s111, s112, s113, s114, s115, s116, s117, s118, s119, s120, s121, s122, s123, s124, s125, s126, s127, s128, s129, s130, s131, s132, s133, s134, s135, s136, s137, s138, s139, s140, s141, s142, s143, s144, s145, s146, s147, s148, s149, s150, s151, s152, s153, s154, s155, s156, s157, s158, s159, s160, s161, s162, s163, s164, s165, s166, s167, s168, s169, s170, s171, s172, s173, s174, s175, s176, s177, s178, s179, s180, s181, s182, s183, s184, s185, s186, s187, s188, s189, s190, s191, s192, s193, s194, s195, s196, s197, s198, s199, s200, s201, s202, s203, s204, s205, s206, s207, s208], []⟩ wo := by
  obtain ⟨i1, hi1, hy0, hy1, hy2⟩ := info_parts infoI
  have hcode2 : some _ = some cd := hcode
  obtain rfl := Option.some.inj hcode2
  clear hcode hcode2
  conv in (subC _ _) => whnf
  have HQ := Lib.hid hQ
  clear hQ
  have HOM := Lib.hid hom
  have HCR := Lib.hid hcr
  clear hom hcr
  have g1 := HCR.out
  go_wp2_with fail
  refine (next_any r dd xs _ (by omega) (by omega) HOM.out.dice).mono ?_
  rintro e w3 ⟨a, ha, rfl, hT, hK⟩
  have HOM3 := Lib.hid (HOM.out.thrown hT hK (by omega))
  have HCR3 := Lib.hid (cr_kp HCR.out hK hcd)
  clear hT hK
  obtain ⟨z0, z1, z2, z3, z4, z5⟩ := HOM3.out.z
  have f1 := HOM3.out.f 1
  have f2 := HOM3.out.f 2
  have f3 := HOM3.out.f 3
  have f4 := HOM3.out.f 4
  have f5 := HOM3.out.f 5
  have HOM5 := Lib.hid (HOM3.out.set (o := 1) (x := iv a) hdo hno rfl)
  have HCR5 : Hid ((w3.setCell ⟨ob, 1, none⟩ (iv a)).cell? ⟨cb, 1, none⟩ = some (iv r)) := Lib.hid (by
    have g2 := HCR3.out
    have hcb : cb ≠ ob := by omega
    exact ((setKp ob 1 w3 (iv a)).kept (S := fun y => y = cb) (fun b hb => by subst hb; exact ⟨block_lt_of_cell g2, hcb⟩) ⟨cb, 1, none⟩ rfl).trans g2)
  go_wp2_with fail
  refine (next_any 3 dd xs _ (by decide) (by decide) HOM5.out.dice).mono ?_
  rintro e w6 ⟨j0, hj0, rfl, hT, hK⟩
  have HOM6 := Lib.hid (HOM5.out.thrown hT hK (by omega))
  have HCR6 := Lib.hid (cr_kp HCR5.out hK hcd)
  clear hT hK
  try clear z0 z1 z2 z3 z4 z5 f1 f2 f3 f4 f5
  go_wp2_with fail
  go_loopg [10] j0 (fun g i wx => ∃ (j : Nat) (l : List Int) (v : Value), i = .int .i64 j ∧ g = j ∧ j + l.length ≤ 2 ∧ (∀ z ∈ l, I64f z) ∧ wx.ownsRow (ob + 1) 3 1 v l.length (l.map iv) ∧ Om dd ob xs wn wx (iv 15) (iv a) (iv 0) (iv 0) v (sv ([] : List UInt8)) ∧ wx.cell? ⟨cb, 1, none⟩ = some (iv r))
  case atStart => exact ⟨j0, [], .slice none 0 0, rfl, rfl, by simp; omega, by simp, World.ownsRow_nil _ _ _ _, HOM6.out, HCR6.out⟩
  case round =>
    obtain ⟨j, l, v, rfl, rfl, hjl, hlf, hlo, homl, hcl⟩ := hrel
    obtain ⟨LA, lc, rfl, _⟩ := own_slice hlo
    obtain ⟨m, hm⟩ : ∃ m, m = l.length := ⟨_, rfl⟩
    rw [← hm] at hjl hlo homl
    have HLM := Lib.hid hm
    have HLO := Lib.hid hlo
    have HLF := Lib.hid hlf
    have HOML := Lib.hid homl
    have HCL := Lib.hid hcl
    clear hlo hlf homl hcl hm HOM6 HCR6
    by_cases hj : 0 < gk
    · obtain ⟨z0, z1, z2, z3, z4, z5⟩ := HOML.out.z
      have g1 := HCL.out
      have hgz : (0 : Int) < (gk : Int) := by omega
      go_wp2_with fail
      refine wp_region_mix (fun u => u.cell? ⟨cb, 1, none⟩ = some (iv r) ∧ u.cell? ⟨ob, 4, none⟩ = some (.slice LA m lc)) [(true, 0), (true, 1), (true, 2), (true, 3), (true, 4), (false, 5), (false, 6)] [7, 8, 9] (by kernel_rfl) (by kernel_rfl) ⟨g1, z4⟩ ?hl15
      case hl15 =>
      simp only [mixAt, List.filterMap_cons, List.filterMap_nil, List.getElem?_toArray, List.getElem?_cons_succ, List.getElem?_cons_zero, Option.map_some]
      refine wpMix_load ?vla150 rfl (fun w' hS => ?yla150) ?kla150
      case yla150 =>
        obtain ⟨g0, g1⟩ := hS
        go_simp
        try rfl
      case kla150 =>
      go_simp
      refine wpMix_load ?vla151 rfl (fun w' hS => ?yla151) ?kla151
      case yla151 =>
        obtain ⟨g0, g1⟩ := hS
        go_simp
        try rfl
      case kla151 =>
      go_simp
      refine wpMix_load ?vla152 rfl (fun w' hS => ?yla152) ?kla152
      case yla152 =>
        obtain ⟨g0, g1⟩ := hS
        go_simp
        try rfl
      case kla152 =>
      go_simp
      refine wpMix_load ?vla153 rfl (fun w' hS => ?yla153) ?kla153
      case yla153 =>
        obtain ⟨g0, g1⟩ := hS
        go_simp
        try rfl
      case kla153 =>
      go_simp
      refine wpMix_load ?vla154 rfl (fun w' hS => ?yla154) ?kla154
      case yla154 =>
        obtain ⟨g0, g1⟩ := hS
        go_simp
        try rfl
      case kla154 =>
      go_simp
      have HOMD := Lib.hid (HOML.out.below (Below.refl _ _).drew)
      have HCRD : Hid (wr.drew.cell? ⟨cb, 1, none⟩ = some (iv r)) := Lib.hid HCL.out
      clear z0 z1 z2 z3 z4 z5 g1
      refine wpMix_keep rfl ?_
      go_wp2_with fail
      refine (next_any r dd xs _ (by omega) (by omega) HOMD.out.dice).mono ?_
      rintro e w7 ⟨zz, hzz, rfl, hT, hK⟩
      have HOM7 := Lib.hid (HOMD.out.thrown hT hK (by omega))
      have HCR7 := Lib.hid (cr_kp HCRD.out hK hcd)
      have hown7 := Kp.own hK HLO.out (fun g hg e => by have := (HLO.out.lt g hg).1; omega)
      refine ⟨⟨HCR7.out, HOM7.out.z.2.2.2.2.1⟩, ?_⟩
      clear hT hK HOMD HCRD
      refine wpMix_keep rfl ?_
      go_wp2_with fail
      have hba8 : Below w7.heap.size w7 (w7.alloc (.cells #[iv zz] 3)) := (Below.refl _ _).alloc (Nat.le_refl _) _
      have HOM8 := Lib.hid (HOM7.out.below hba8)
      have HCR8 : Hid ((w7.alloc (.cells #[iv zz] 3)).cell? ⟨cb, 1, none⟩ = some (iv r)) := Lib.hid (by
        have g2 := HCR7.out
        exact (hba8.cell (block_lt_of_cell g2)).trans g2)
      refine ⟨⟨HCR8.out, HOM8.out.z.2.2.2.2.1⟩, ?_⟩
      have hown8 := hown7.alloc (.cells #[iv zz] 3)
      have hnew8 := World.news_of_block (cs := #[iv zz]) (alloc1 w7 (.cells #[iv zz] 3))
      have hlt7 := lt_of_heap HOM7.out.heap
      clear hba8 HOM7 HCR7 hown7
      refine wpMix_nil ?_
      simp only [opsAt, List.filterMap_cons, List.filterMap_nil, List.getElem?_toArray, List.getElem?_cons_succ, List.getElem?_cons_zero]
      refine wpList_append_own _ rfl (.tmp 150) (.tmp 155) 22 rfl (ob + 1) 3 i1 (.int .i64 0) 1 8 Tryd.underlying22 hi1 hy0 hy1 hy2 rfl (by decide) _ m _ rfl hown8 ⟨w7.heap.size, 0, none⟩ 1 1 [iv zz] rfl rfl ?c1 ?c2 ?c3 ?c4 ?c5 ?_
      case c1 => exact hnew8
      case c2 =>
        intro u hu
        rw [List.mem_singleton.1 hu]
        rfl
      case c3 => unfold maxLen; omega
      case c4 => omega
      case c5 => simp; omega
      intro v' w9 hown9 hgrow _
      obtain ⟨VA, vc, rfl, _⟩ := own_slice hown9
      have hob9 : ∀ g, (Value.slice LA m lc).ownBlock = some g → ob < g := fun g hg => by have := (hown8.lt g hg).1; omega
      have HOM9 := Lib.hid (HOM8.out.grown hgrow hob9 hdo hno)
      have HCR9 : Hid (w9.cell? ⟨cb, 1, none⟩ = some (iv r)) := Lib.hid (by
        have g2 := HCR8.out
        have hcb : cb < ob := by omega
        exact (keptGrown hgrow (S := fun y => y = cb) (fun b hb => by subst hb; exact ⟨block_lt_of_cell g2, fun e => by have := hob9 b e.symm; omega⟩) ⟨cb, 1, none⟩ rfl).trans g2)
      have HO9 := Lib.hid hown9
      clear hown8 hnew8 hgrow hown9 HOM8 HCR8 hob9
      obtain ⟨z0, z1, z2, z3, z4, z5⟩ := HOM9.out.z
      have f1 := HOM9.out.f 1
      have f2 := HOM9.out.f 2
      have f3 := HOM9.out.f 3
      have f4 := HOM9.out.f 4
      have f5 := HOM9.out.f 5
      go_wp2
      refine NoPanic.normal ?_
      go_wp2
      go_roundg (gk - 1)
      case measure => omega
      case rel =>
        refine ⟨gk - 1, l ++ [(zz : Int)], .slice VA (m + 1) vc, by go_num, rfl, by rw [List.length_append, ← HLM.out]; simp; omega, fun y hy => ?_, ?_, HOM9.out.set (o := 4) hdo hno rfl, ?_⟩
        · rcases List.mem_append.1 hy with hy | hy
          · exact HLF.out y hy
          · rw [List.mem_singleton.1 hy]
            exact (i64small (by omega) (by omega))
        · have h := HO9.out.kept (grownSet (b := ob) (o := 4) (v := .slice VA (m + 1) vc)) (by
            cases hv : (Value.slice VA (m + 1) vc).ownBlock with
            | none => exact .inl rfl
            | some g => exact .inr fun e => by have := (HO9.out.lt g hv).1; have := Option.some.inj e; omega)
          rw [List.length_append, ← HLM.out, List.map_append]
          exact h
        · have g2 := HCR9.out
          have hcb : cb ≠ ob := by omega
          exact ((setKp ob 4 w9 (.slice VA (m + 1) vc)).kept (S := fun y => y = cb) (fun b hb => by subst hb; exact ⟨block_lt_of_cell g2, hcb⟩) ⟨cb, 1, none⟩ rfl).trans g2
    · obtain rfl : gk = 0 := by omega
      go_wp2
      refine HQ.out _ _ _ _ _ _ _ _ _ _ _ _ _ _ _ _ _ _ _ _ _ _ _ _ _ _ _ _ _ _ _ _ _ _ _ _ _ _ _ _ _ _ _ _ _ _ _ _ _ _ _ _ _ _ _ _ _ _ _ _ _ _ _ _ _ _ _ _ _ _ _ _ _ _ _ _ _ _ _ _ _ _ _ _ _ _ _ _ _ _ _ _ _ _ _ _ _ _ _ _ _ _ _ _ _ _ _ _ _ _ _ _ _ _ _ _ _ _ _ _ _ _ _ _ _ _ _ _ _ _ _ _ _ _ _ _ _ _ _ _ _ _ _ _ _ _ _ _ _ _ _ _ _ _ _ _ _ _ _ _ _ _ _ ?_
      exact HOML.out.done (i64small (by decide) (by decide)) (i64small (by omega) (by omega)) (i64small (by decide) (by decide)) (i64small (by decide) (by decide)) HLF.out (by rw [← HLM.out]; omega) (by simp) HLM.out (Row.ofOwn HLO.out fun g _ h3 h4 => ⟨by omega, h4, by omega⟩)
end Go.Proofs.YtkggmckfdkpldaaDoor
