/-
  The branches of made's Dice.Code, each by itself.
  Conditions: the dice and the operation lie in memory.
-/
import Derived.Test.YtkggmckfdkpldaaDoorFdC
namespace Go.Proofs.YtkggmckfdkpldaaDoor
open Go.RowKit

set_option maxHeartbeats 6400000 in
set_option maxRecDepth 100000 in
theorem mk1 {dd cb ob n k r : Nat} {xs : List Int} {wn wo : World} {Q : Exit → Act → World → Prop} {s1 s2 s3 s4 s9 s10 s11 s12 s13 s14 s15 s16 s17 s18 s19 s20 s21 s22 s23 s24 s25 s26 s27 s28 s29 s30 s31 s32 s33 s34 s35 s36 s37 s38 s39 s40 s41 s42 s43 s44 s45 s46 s47 s48 s49 s50 s51 s52 s53 s54 s55 s56 s57 s58 s59 s60 s61 s62 s63 s64 s65 s66 s67 s68 s69 s70 s71 s72 s73 s74 s75 s76 s77 s78 s79 s80 s81 s82 s83 s84 s85 s86 s87 s88 s89 s90 s91 s92 s93 s94 s95 s96 s97 s98 s99 s100 s101 s102 s103 s104 s105 s106 s107 s108 s109 s110 s111 s112 s113 s114 s115 s116 s117 s118 s119 s120 s121 s122 s123 s124 s125 s126 s127 s128 s129 s130 s131 s132 s133 s134 s135 s136 s137 s138 s139 s140 s141 s142 s143 s144 s145 s146 s147 s148 s149 s150 s151 s152 s153 s154 s155 s156 s157 s158 s159 s160 s161 s162 s163 s164 s165 s166 s167 s168 s169 s170 s171 s172 s173 s174 s175 s176 s177 s178 s179 s180 s181 s182 s183 s184 s185 s186 s187 s188 s189 s190 s191 s192 s193 s194 s195 s196 s197 s198 s199 s200 s201 s202 s203 s204 s205 s206 s207 s208 : Value} {cd : Code} (hcode : (Tryd.f9.body.map (subC [1, 1, 1, 0, 1, 0, 0, 1, 0, 0, 1, 0, 1, 0, 1, 0])) = some cd)
    (hr1 : 1 ≤ r) (hr2 : r ≤ 200) (hn2 : n ≤ 14) (hlt : k < n) (hdo : dd < ob) (hno : wn.heap.size ≤ ob) (hob : ob ≤ wn.heap.size) (hcd : cb ≠ dd) (hco : cb < ob) (hom : Om dd ob xs wn wo (iv 1) (iv 0) (iv 0) (iv 0) (.slice none 0 0) (sv [])) (hcr : wo.cell? ⟨cb, 1, none⟩ = some (iv r))
    (hQ : ∀ (x9 x10 x32 x33 x34 x35 x36 x37 x38 x39 x40 x41 x42 x43 x44 x45 x46 x47 x48 x49 x50 x51 x52 x53 x54 x55 x56 x57 x58 x59 x60 x61 x62 x63 x64 x65 x66 x67 x68 x69 x70 x71 x72 x73 x74 x75 x76 x77 x78 x79 x80 x81 x82 x83 x84 x85 x86 x87 x88 x89 x90 x91 x92 x93 x94 x95 x96 x97 x98 x99 x100 x101 x102 x103 x104 x105 x106 x107 x108 x109 x110 x111 x112 x113 x114 x115 x116 x117 x118 x119 x120 x121 x122 x123 x124 x125 x126 x127 x128 x129 x130 x131 x132 x133 x134 x135 x136 x137 x138 x139 x140 x141 x142 x143 x144 x145 x146 x147 x148 x149 x150 x151 x152 x153 x154 x155 x156 x157 x158 x159 x160 x161 x162 x163 x164 x165 x166 x167 x168 x169 x170 x171 x172 x173 x174 x175 x176 x177 x178 x179 x180 x181 x182 x183 x184 x185 x186 x187 x188 x189 x190 x191 : Value) (w' : World), OpMk dd ob xs wn w' → Q .normal ⟨#[.pointer (some ⟨dd, 0, none⟩), s1, s2, s3, s4, .int .i64 (n : Int), .pointer (some ⟨cb, 0, none⟩), .int .i64 (k : Int), .pointer (some ⟨ob, 0, none⟩), x9, x10, s11, s12, s13, s14, s15, s16, s17, s18, s19, s20, s21, s22, s23, s24, s25, s26, s27, s28, s29, s30, s31, x32, x33, x34, x35, x36, x37, x38, x39, x40, x41, x42, x43, x44, x45, x46, x47, x48, x49, x50, x51, x52, x53, x54, x55, x56, x57, x58, x59, x60, x61, x62, x63, x64, x65, x66, x67, x68, x69, x70, x71, x72, x73, x74, x75, x76, x77, x78, x79, x80, x81, x82, x83, x84, x85, x86, x87, x88, x89, x90, x91, x92, x93, x94, x95, x96, x97, x98, x99, x100, x101, x102, x103, x104, x105, x106, x107, x108, x109, x110, x111, x112, x113, x114, x115, x116, x117, x118, x119, x120, x121, x122, x123, x124, x125, x126, x127, x128, x129, x130, x131, x132, x133, x134, x135, x136, x137, x138, x139, x140, x141, x142, x143, x144, x145, x146, x147, x148, x149, x150, x151, x152, x153, x154, x155, x156, x157, x158, x159, x160, x161, x162, x163, x164, x165, x166, x167, x168, x169, x170, x171, x172, x173, x174, x175, x176, x177, x178, x179, x180, x181, x182, x183, x184, x185, x186, x187, x188, x189, x190, x191, s192, s193, s194, s195, s196, s197, s198, s199, s200, s201, s202, s203, s204, s205, s206, s207, s208], []⟩ w') :
    cd.wp Tryd.prog Q ⟨#[.pointer (some ⟨dd, 0, none⟩), s1, s2, s3, s4, .int .i64 (n : Int), .pointer (some ⟨cb, 0, none⟩), .int .i64 (k : Int), .pointer (some ⟨ob, 0, none⟩), s9, s10, s11, s12, s13, s14, s15, s16, s17, s18, s19, s20, s21, s22, s23, s24, s25, s26, s27, s28, s29, s30, s31, s32, s33, s34, s35, s36, s37, s38, s39, s40, s41, s42, s43, s44, s45, s46, s47, s48, s49, s50, s51, s52, s53, s54, s55, s56, s57, s58, s59, s60, s61, s62, s63, s64, s65, s66, s67, s68, s69, s70, s71, s72, s73, s74, s75, s76, s77, s78, s79, s80, s81, s82, s83, s84, s85, s86, s87, s88, s89, s90, s91, s92, s93, s94, s95, s96, s97, s98, s99, s100, s101, s102, s103, s104, s105, s106, s107, s108, s109, s110, s111, s112, s113, s114, s115, s116, s117, s118, s119, s120, s121, s122, s123, s124, s125, s126, s127, s128, s129, s130, s131, s132, s133, s134, s135, s136, s137, s138, s139, s140, s141, s142, s143, s144, s145, s146, s147, s148, s149, s150, s151, s152, s153, s154, s155, s156, s157, s158, s159, s160, s161, s162, s163, s164, s165, s166, s167, s168, s169, s170, s171, s172, s173, s174, s175, s176, s177, s178, s179, s180, s181, s182, s183, s184, s185, s186, s187, s188, s189, s190, s191, s192, s193, s194, s195, s196, s197, s198, s199, s200, s201, s202, s203, s204, s205, s206, s207, s208], []⟩ wo := by
  obtain ⟨i1, hi1, hy0, hy1, hy2⟩ := info_parts infoI
  have hcode2 : some _ = some cd := hcode
  obtain rfl := Option.some.inj hcode2
  clear hcode hcode2
  conv in (subC _ _) => whnf
  have HQ := Lib.hid hQ
  clear hQ
  have HOM := Lib.hid hom
  have HCR := Lib.hid hcr
  clear hom hcr
  have g1 := HCR.out
  go_wp2_with fail
  refine wp_region_inv (fun u => (∃ a c : Int, Om dd ob xs wn u (iv 1) (iv a) (iv 0) (iv c) (.slice none 0 0) (sv []) ∧ I64f a ∧ I64f c) ∧ u.cell? ⟨cb, 1, none⟩ = some (iv r)) (fun u v => Kp (fun y => y = dd ∨ y = ob) u v) (c9Phi dd ob cb r) [(0, 34), (1, 35), (2, 36), (3, 37), (4, 38), (5, 39), (6, 40), (7, 41), (8, 42), (9, 43), (11, 44)] [10, 12] (by kernel_rfl) (by kernel_rfl) (fun _ => Kp.refl _ _) (fun _ _ _ h h' => h.trans h' fun _ _ e => e) c9_go ?s9 ?g9
  case s9 => exact ⟨⟨0, 0, HOM.out.below (Below.refl _ _).drew, i64small (by decide) (by decide), i64small (by decide) (by decide)⟩, g1⟩
  case g9 =>
  have hnext : ∀ (nn : Nat) (u : World), 1 ≤ nn → nn ≤ 1000 → ((∃ a c : Int, Om dd ob xs wn u (iv 1) (iv a) (iv 0) (iv c) (.slice none 0 0) (sv []) ∧ I64f a ∧ I64f c) ∧ u.cell? ⟨cb, 1, none⟩ = some (iv r)) → Calls Tryd.prog 14 #[.pointer (some ⟨dd, 0, none⟩), .int .i64 (nn : Int)] u fun e u' => ∃ k : Nat, k < nn ∧ e = .returned (.int .i64 (k : Int)) ∧ Kp (fun y => y = dd ∨ y = ob) u u' ∧ ((∃ a c : Int, Om dd ob xs wn u' (iv 1) (iv a) (iv 0) (iv c) (.slice none 0 0) (sv []) ∧ I64f a ∧ I64f c) ∧ u'.cell? ⟨cb, 1, none⟩ = some (iv r)) := by
    rintro nn u h1 h2 ⟨⟨a, c, hom, ha, hc⟩, hcr⟩
    refine (next_any nn dd xs u h1 h2 hom.dice).mono ?_
    rintro e u' ⟨k, hk, rfl, hT, hK⟩
    exact ⟨k, hk, rfl, hK.more fun x _ e => .inl e, ⟨a, c, hom.thrown hT hK (by omega), ha, hc⟩, cr_kp hcr hK hcd⟩
  have HNX := Lib.hid hnext
  have HCO : Hid (cb ≠ ob) := Lib.hid (by omega)
  clear hnext g1
  refine ⟨?z9, ?o9, ?t9, ?f9⟩
  case z9 =>
    intro x hx
    simp only [List.mem_cons, List.not_mem_nil, or_false] at hx
    rcases hx with rfl | rfl | rfl | rfl | rfl | rfl | rfl | rfl | rfl | rfl | rfl <;> simp
  case o9 =>
    intro x hx
    simp only [List.mem_cons, List.not_mem_nil, or_false] at hx
    rcases hx with rfl | rfl | rfl | rfl | rfl | rfl | rfl | rfl | rfl | rfl | rfl
    · intro a' w7 K hI hK
      have e0 := hI.old 0 _ rfl (by decide)
      have hS := hI.hold
      clear hI
      refine wpOp_go rfl rfl ?_
      go_simp
      exact hK _ _ (Kp.refl _ _) hS rfl
    · intro a' w7 K hI hK
      have e0 := hI.old 6 _ rfl (by decide)
      have hS := hI.hold
      clear hI
      refine wpOp_go rfl rfl ?_
      go_simp
      exact hK _ _ (Kp.refl _ _) hS rfl
    · intro a' w7 K hI hK
      obtain ⟨v0, e1, hv⟩ := hI.new (1, 35) (by decide) (by kernel_rfl)
      obtain rfl : v0 = .pointer (some ⟨cb, 1, none⟩) := hv
      have hS := hI.hold
      have g0 := hS.2
      clear hI
      refine wpOp_go rfl rfl ?_
      go_simp
      exact hK _ _ (Kp.refl _ _) hS rfl
    · intro a' w7 K hI hK
      obtain ⟨v0, e1, hv⟩ := hI.new (0, 34) (by decide) (by kernel_rfl)
      obtain rfl : v0 = .pointer (some ⟨dd, 0, none⟩) := hv
      obtain ⟨v1, e2, hv⟩ := hI.new (2, 36) (by decide) (by kernel_rfl)
      obtain rfl : v1 = iv r := hv
      have hS := hI.hold
      clear hI
      refine wpOp_go rfl rfl ?_
      go_simp
      refine (HNX.out r w7 (by omega) (by omega) hS).mono ?_
      rintro e w8 ⟨kq, hkq, rfl, hK8, hS8⟩
      exact hK _ _ hK8 hS8 ⟨kq, hkq, rfl⟩
    · intro a' w7 K hI hK
      have hS := hI.hold
      clear hI
      refine wpOp_go rfl rfl ?_
      go_simp
      have hb : Below w7.heap.size w7 (w7.alloc (.cells sixC 3)) := (Below.refl _ _).alloc (Nat.le_refl _) _
      obtain ⟨⟨za, zc, hom, hza, hzc⟩, hcr⟩ := hS
      have h1 := hom.dice.lt
      have h2 := lt_of_heap hom.heap
      exact hK _ _ (Kp.ofBelow hb) ⟨⟨za, zc, hom.below hb, hza, hzc⟩, (hb.cell (block_lt_of_cell hcr)).trans hcr⟩ ⟨w7.heap.size, rfl, by omega, by omega, alloc1 _ _⟩
    · intro a' w7 K hI hK
      have e0 := hI.old 0 _ rfl (by decide)
      have hS := hI.hold
      clear hI
      refine wpOp_go rfl rfl ?_
      go_simp
      exact hK _ _ (Kp.refl _ _) hS rfl
    · intro a' w7 K hI hK
      obtain ⟨v0, e1, hv⟩ := hI.new (5, 39) (by decide) (by kernel_rfl)
      obtain rfl : v0 = .pointer (some ⟨dd, 0, none⟩) := hv
      have hS := hI.hold
      clear hI
      refine wpOp_go rfl rfl ?_
      go_simp
      refine (HNX.out 6 w7 (by omega) (by omega) hS).mono ?_
      rintro e w8 ⟨kq, hkq, rfl, hK8, hS8⟩
      exact hK _ _ hK8 hS8 ⟨kq, hkq, rfl⟩
    · intro a' w7 K hI hK
      obtain ⟨v0, e1, bb, hv, h1, h2, h3⟩ := hI.new (4, 38) (by decide) (by kernel_rfl)
      subst hv
      obtain ⟨v1, e2, kq, hkq, hv⟩ := hI.new (6, 40) (by decide) (by kernel_rfl)
      subst hv
      have hS := hI.hold
      have hik : (0 : Int) ≤ (kq : Int) ∧ (kq : Int) < 6 := ⟨by omega, by omega⟩
      clear hI
      refine wpOp_go rfl rfl ?_
      go_simp
      exact hK _ _ (Kp.refl _ _) hS ⟨bb, kq, rfl, hkq, h1, h2, h3⟩
    · intro a' w7 K hI hK
      obtain ⟨v0, e1, bb, kq, hv, hkq, h1, h2, h3⟩ := hI.new (7, 41) (by decide) (by kernel_rfl)
      subst hv
      have hS := hI.hold
      obtain ⟨z, hz, hzc⟩ := sixC_at kq hkq
      have g0 : w7.cell? ⟨bb, kq, none⟩ = some (iv z) := (Lib.cell_of_heap h3 _).trans hzc
      clear hI
      refine wpOp_go rfl rfl ?_
      go_simp
      exact hK _ _ (Kp.refl _ _) hS ⟨z, hz, rfl⟩
    · intro a' w7 K hI hK
      have e0 := hI.old 8 _ rfl (by decide)
      have hS := hI.hold
      clear hI
      refine wpOp_go rfl rfl ?_
      go_simp
      exact hK _ _ (Kp.refl _ _) hS rfl
    · intro a' w7 K hI hK
      have e0 := hI.old 8 _ rfl (by decide)
      have hS := hI.hold
      clear hI
      refine wpOp_go rfl rfl ?_
      go_simp
      exact hK _ _ (Kp.refl _ _) hS rfl
  case t9 =>
    have hstore : ∀ (u : World) (oo : Nat) (x : Int), oo = 1 ∨ oo = 3 → I64f x → ((∃ a c : Int, Om dd ob xs wn u (iv 1) (iv a) (iv 0) (iv c) (.slice none 0 0) (sv []) ∧ I64f a ∧ I64f c) ∧ u.cell? ⟨cb, 1, none⟩ = some (iv r)) → ((∃ a c : Int, Om dd ob xs wn (u.setCell ⟨ob, oo, none⟩ (iv x)) (iv 1) (iv a) (iv 0) (iv c) (.slice none 0 0) (sv []) ∧ I64f a ∧ I64f c) ∧ (u.setCell ⟨ob, oo, none⟩ (iv x)).cell? ⟨cb, 1, none⟩ = some (iv r)) := by
      rintro u oo x ho hx ⟨⟨a, c, hom, ha, hc⟩, hcr⟩
      refine ⟨?_, ((setKp ob oo u (iv x)).kept (S := fun y => y = cb) (fun b hb => by subst hb; exact ⟨block_lt_of_cell hcr, HCO.out⟩) ⟨cb, 1, none⟩ rfl).trans hcr⟩
      rcases ho with rfl | rfl
      · exact ⟨x, c, hom.set hdo hno rfl, hx, hc⟩
      · exact ⟨a, x, hom.set hdo hno rfl, ha, hx⟩
    have HST := Lib.hid hstore
    clear hstore
    intro i hi
    simp only [List.mem_cons, List.not_mem_nil, or_false] at hi
    rcases hi with rfl | rfl
    · intro a' w7 K hI hK
      obtain ⟨v0, e1, hv⟩ := hI.new (9, 43) (by decide) (by kernel_rfl)
      obtain rfl : v0 = .pointer (some ⟨ob, 1, none⟩) := hv
      obtain ⟨v1, e2, kq, hkq, hv⟩ := hI.new (3, 37) (by decide) (by kernel_rfl)
      subst hv
      have hS := hI.hold
      clear hI
      obtain ⟨⟨za, zc, hom, _, _⟩, _⟩ := id hS
      obtain ⟨z0, z1, z2, z3, z4, z5⟩ := hom.z
      have f1 := hom.f 1
      clear hom
      refine wpOp_go rfl rfl ?_
      go_simp
      exact hK _ ((setKp ob 1 w7 (iv kq)).more fun x _ e => .inr e) (HST.out w7 1 kq (.inl rfl) (i64small (by omega) (by omega)) hS)
    · intro a' w7 K hI hK
      obtain ⟨v0, e1, hv⟩ := hI.new (11, 44) (by decide) (by kernel_rfl)
      obtain rfl : v0 = .pointer (some ⟨ob, 3, none⟩) := hv
      obtain ⟨v1, e2, zz, hzz, hv⟩ := hI.new (8, 42) (by decide) (by kernel_rfl)
      subst hv
      have hS := hI.hold
      clear hI
      obtain ⟨⟨za, zc, hom, _, _⟩, _⟩ := id hS
      obtain ⟨z0, z1, z2, z3, z4, z5⟩ := hom.z
      have f3 := hom.f 3
      clear hom
      refine wpOp_go rfl rfl ?_
      go_simp
      exact hK _ ((setKp ob 3 w7 (iv zz)).more fun x _ e => .inr e) (HST.out w7 3 zz (.inr rfl) hzz hS)
  case f9 =>
    rintro vs' w' _ ⟨⟨za, zc, hom, hza, hzc⟩, _⟩ _
    have HOM9 := Lib.hid hom
    clear hom
    simp only [putD]
    go_simp
    try go_wp2
    refine HQ.out _ _ _ _ _ _ _ _ _ _ _ _ _ _ _ _ _ _ _ _ _ _ _ _ _ _ _ _ _ _ _ _ _ _ _ _ _ _ _ _ _ _ _ _ _ _ _ _ _ _ _ _ _ _ _ _ _ _ _ _ _ _ _ _ _ _ _ _ _ _ _ _ _ _ _ _ _ _ _ _ _ _ _ _ _ _ _ _ _ _ _ _ _ _ _ _ _ _ _ _ _ _ _ _ _ _ _ _ _ _ _ _ _ _ _ _ _ _ _ _ _ _ _ _ _ _ _ _ _ _ _ _ _ _ _ _ _ _ _ _ _ _ _ _ _ _ _ _ _ _ _ _ _ _ _ _ _ _ _ _ _ _ _ ?_
    exact HOM9.out.done0 (i64small (by decide) (by decide)) hza (i64small (by decide) (by decide)) hzc (by simp)
set_option maxHeartbeats 6400000 in
set_option maxRecDepth 100000 in
theorem mk13 {dd cb ob n k r : Nat} {kk : Int} {xs : List Int} {wn wo : World} {Q : Exit → Act → World → Prop} {s1 s2 s3 s4 s9 s10 s11 s12 s13 s14 s15 s16 s17 s18 s19 s20 s21 s22 s23 s24 s25 s26 s27 s28 s29 s30 s31 s32 s33 s34 s35 s36 s37 s38 s39 s40 s41 s42 s43 s44 s45 s46 s47 s48 s49 s50 s51 s52 s53 s54 s55 s56 s57 s58 s59 s60 s61 s62 s63 s64 s65 s66 s67 s68 s69 s70 s71 s72 s73 s74 s75 s76 s77 s78 s79 s80 s81 s82 s83 s84 s85 s86 s87 s88 s89 s90 s91 s92 s93 s94 s95 s96 s97 s98 s99 s100 s101 s102 s103 s104 s105 s106 s107 s108 s109 s110 s111 s112 s113 s114 s115 s116 s117 s118 s119 s120 s121 s122 s123 s124 s125 s126 s127 s128 s129 s130 s131 s132 s133 s134 s135 s136 s137 s138 s139 s140 s141 s142 s143 s144 s145 s146 s147 s148 s149 s150 s151 s152 s153 s154 s155 s156 s157 s158 s159 s160 s161 s162 s163 s164 s165 s166 s167 s168 s169 s170 s171 s172 s173 s174 s175 s176 s177 s178 s179 s180 s181 s182 s183 s184 s185 s186 s187 s188 s189 s190 s191 s192 s193 s194 s195 s196 s197 s198 s199 s200 s201 s202 s203 s204 s205 s206 s207 s208 : Value} {cd : Code} (hcode : (Tryd.f9.body.map (subC [1, 1, 1, 0, 1, 0, 0, 1, 0, 0, 1, 0, 1, 0, 1, 1, 1, 0])) = some cd)
    (hk1 : 1 ≤ kk ∧ kk ≤ 19) (hr1 : 1 ≤ r) (hr2 : r ≤ 200) (hn2 : n ≤ 14) (hlt : k < n) (hdo : dd < ob) (hno : wn.heap.size ≤ ob) (hob : ob ≤ wn.heap.size) (hcd : cb ≠ dd) (hco : cb < ob) (hom : Om dd ob xs wn wo (iv kk) (iv 0) (iv 0) (iv 0) (.slice none 0 0) (sv [])) (hcr : wo.cell? ⟨cb, 1, none⟩ = some (iv r))
    (hQ : ∀ (x9 x10 x32 x33 x34 x35 x36 x37 x38 x39 x40 x41 x42 x43 x44 x45 x46 x47 x48 x49 x50 x51 x52 x53 x54 x55 x56 x57 x58 x59 x60 x61 x62 x63 x64 x65 x66 x67 x68 x69 x70 x71 x72 x73 x74 x75 x76 x77 x78 x79 x80 x81 x82 x83 x84 x85 x86 x87 x88 x89 x90 x91 x92 x93 x94 x95 x96 x97 x98 x99 x100 x101 x102 x103 x104 x105 x106 x107 x108 x109 x110 x111 x112 x113 x114 x115 x116 x117 x118 x119 x120 x121 x122 x123 x124 x125 x126 x127 x128 x129 x130 x131 x132 x133 x134 x135 x136 x137 x138 x139 x140 x141 x142 x143 x144 x145 x146 x147 x148 x149 x150 x151 x152 x153 x154 x155 x156 x157 x158 x159 x160 x161 x162 x163 x164 x165 x166 x167 x168 x169 x170 x171 x172 x173 x174 x175 x176 x177 x178 x179 x180 x181 x182 x183 x184 x185 x186 x187 x188 x189 x190 x191 : Value) (w' : World), OpMk dd ob xs wn w' → Q .normal ⟨#[.pointer (some ⟨dd, 0, none⟩), s1, s2, s3, s4, .int .i64 (n : Int), .pointer (some ⟨cb, 0, none⟩), .int .i64 (k : Int), .pointer (some ⟨ob, 0, none⟩), x9, x10, s11, s12, s13, s14, s15, s16, s17, s18, s19, s20, s21, s22, s23, s24, s25, s26, s27, s28, s29, s30, s31, x32, x33, x34, x35, x36, x37, x38, x39, x40, x41, x42, x43, x44, x45, x46, x47, x48, x49, x50, x51, x52, x53, x54, x55, x56, x57, x58, x59, x60, x61, x62, x63, x64, x65, x66, x67, x68, x69, x70, x71, x72, x73, x74, x75, x76, x77, x78, x79, x80, x81, x82, x83, x84, x85, x86, x87, x88, x89, x90, x91, x92, x93, x94, x95, x96, x97, x98, x99, x100, x101, x102, x103, x104, x105, x106, x107, x108, x109, x110, x111, x112, x113, x114, x115, x116, x117, x118, x119, x120, x121, x122, x123, x124, x125, x126, x127, x128, x129, x130, x131, x132, x133, x134, x135, x136, x137, x138, x139, x140, x141, x142, x143, x144, x145, x146, x147, x148, x149, x150, x151, x152, x153, x154, x155, x156, x157, x158, x159, x160, x161, x162, x163, x164, x165, x166, x167, x168, x169, x170, x171, x172, x173, x174, x175, x176, x177, x178, x179, x180, x181, x182, x183, x184, x185, x186, x187, x188, x189, x190, x191, s192, s193, s194, s195, s196, s197, s198, s199, s200, s201, s202, s203, s204, s205, s206, s207, s208], []⟩ w') :
    cd.wp Tryd.prog Q ⟨#[.pointer (some ⟨dd, 0, none⟩), s1, s2, s3, s4, .int .i64 (n : Int), .pointer (some ⟨cb, 0, none⟩), .int .i64 (k : Int), .pointer (some ⟨ob, 0, none⟩), s9, s10, s11, s12, s13, s14, s15, s16, s17, s18, s19, s20, s21, s22, s23, s24, s25, s26, s27, s28, s29, s30, s31, s32, s33, s34, s35, s36, s37, s38, s39, s40, s41, s42, s43, s44, s45, s46, s47, s48, s49, s50, s51, s52, s53, s54, s55, s56, s57, s58, s59, s60, s61, s62, s63, s64, s65, s66, s67, s68, s69, s70, s71, s72, s73, s74, s75, s76, s77, s78, s79, s80, s81, s82, s83, s84, s85, s86, s87, s88, s89, s90, s91, s92, s93, s94, s95, s96, s97, s98, s99, s100, s101, s102, s103, s104, s105, s106, s107, s108, s109, s110, s111, s112, s113, s114, s115, s116, s117, s118, s119, s120, s121, s122, s123, s124, s125, s126, s127, s128, s129, s130, s131, s132, s133, s134, s135, s136, s137, s138, s139, s140, s141, s142, s143, s144, s145, s146, s147, s148, s149, s150, s151, s152, s153, s154, s155, s156, s157, s158, s159, s160, s161, s162, s163, s164, s165, s166, s167, s168, s169, s170, s171, s172, s173, s174, s175, s176, s177, s178, s179, s180, s181, s182, s183, s184, s185, s186, s187, s188, s189, s190, s191, s192, s193, s194, s195, s196, s197, s198, s199, s200, s201, s202, s203, s204, s205, s206, s207, s208], []⟩ wo := by
  obtain ⟨i1, hi1, hy0, hy1, hy2⟩ := info_parts infoI
  have hcode2 : some _ = some cd := hcode
  obtain rfl := Option.some.inj hcode2
  clear hcode hcode2
  conv in (subC _ _) => whnf
  have HQ := Lib.hid hQ
  clear hQ
  have HOM := Lib.hid hom
  have HCR := Lib.hid hcr
  clear hom hcr
  go_wp2_with fail
  refine wp_region_mix (fun u => u.cell? ⟨cb, 1, none⟩ = some (iv r)) [(true, 0), (true, 1), (true, 2), (true, 4), (true, 5), (true, 6), (false, 3), (true, 8), (false, 7)] [9, 10, 11] (by kernel_rfl) (by kernel_rfl) HCR.out ?ha2
  case ha2 =>
  simp only [mixAt, List.filterMap_cons, List.filterMap_nil, List.getElem?_toArray, List.getElem?_cons_succ, List.getElem?_cons_zero, Option.map_some]
  refine wpMix_load ?vaa20 rfl (fun w' hS => ?yaa20) ?kaa20
  case yaa20 =>
    obtain g0 := hS
    go_simp
    try rfl
  case kaa20 =>
  go_simp
  refine wpMix_load ?vaa21 rfl (fun w' hS => ?yaa21) ?kaa21
  case yaa21 =>
    obtain g0 := hS
    go_simp
    try rfl
  case kaa21 =>
  go_simp
  refine wpMix_load ?vaa22 rfl (fun w' hS => ?yaa22) ?kaa22
  case yaa22 =>
    obtain g0 := hS
    go_simp
    try rfl
  case kaa22 =>
  go_simp
  refine wpMix_load ?vaa23 rfl (fun w' hS => ?yaa23) ?kaa23
  case yaa23 =>
    obtain g0 := hS
    go_simp
    try rfl
  case kaa23 =>
  go_simp
  refine wpMix_load ?vaa24 rfl (fun w' hS => ?yaa24) ?kaa24
  case yaa24 =>
    obtain g0 := hS
    go_simp
    try rfl
  case kaa24 =>
  go_simp
  refine wpMix_load ?vaa25 rfl (fun w' hS => ?yaa25) ?kaa25
  case yaa25 =>
    obtain g0 := hS
    go_simp
    try rfl
  case kaa25 =>
  go_simp
  refine wpMix_keep rfl ?_
  go_wp2_with fail
  have HCRD : Hid (wo.drew.cell? ⟨cb, 1, none⟩ = some (iv r)) := Lib.hid HCR.out
  have HOMD := Lib.hid (HOM.out.below (Below.refl _ _).drew)
  refine (next_any r dd xs _ (by omega) (by omega) HOMD.out.dice).mono ?_
  rintro e w3 ⟨a, ha, rfl, hT, hK⟩
  have HOM3 := Lib.hid (HOMD.out.thrown hT hK (by omega))
  have HCR3 := Lib.hid (cr_kp HCRD.out hK hcd)
  clear hT hK
  refine ⟨HCR3.out, ?_⟩
  refine wpMix_load ?vab20 rfl (fun w' hS => ?yab20) ?kab20
  case yab20 =>
    obtain g0 := hS
    go_simp
    try rfl
  case kab20 =>
  go_simp
  refine wpMix_keep rfl ?_
  go_wp2_with fail
  refine (next_any r dd xs _ (by omega) (by omega) HOM3.out.dice).mono ?_
  rintro e w4 ⟨b, hb, rfl, hT, hK⟩
  have HOM4 := Lib.hid (HOM3.out.thrown hT hK (by omega))
  have HCR4 := Lib.hid (cr_kp HCR3.out hK hcd)
  clear hT hK
  refine ⟨HCR4.out, ?_⟩
  refine wpMix_nil ?_
  simp only [opsAt, List.filterMap_cons, List.filterMap_nil, List.getElem?_toArray, List.getElem?_cons_succ, List.getElem?_cons_zero]
  obtain ⟨z0, z1, z2, z3, z4, z5⟩ := HOM4.out.z
  have f1 := HOM4.out.f 1
  have f2 := HOM4.out.f 2
  have f3 := HOM4.out.f 3
  have f4 := HOM4.out.f 4
  have f5 := HOM4.out.f 5
  go_wp2
  refine NoPanic.normal ?_
  go_wp2
  refine HQ.out _ _ _ _ _ _ _ _ _ _ _ _ _ _ _ _ _ _ _ _ _ _ _ _ _ _ _ _ _ _ _ _ _ _ _ _ _ _ _ _ _ _ _ _ _ _ _ _ _ _ _ _ _ _ _ _ _ _ _ _ _ _ _ _ _ _ _ _ _ _ _ _ _ _ _ _ _ _ _ _ _ _ _ _ _ _ _ _ _ _ _ _ _ _ _ _ _ _ _ _ _ _ _ _ _ _ _ _ _ _ _ _ _ _ _ _ _ _ _ _ _ _ _ _ _ _ _ _ _ _ _ _ _ _ _ _ _ _ _ _ _ _ _ _ _ _ _ _ _ _ _ _ _ _ _ _ _ _ _ _ _ _ _ ?_
  exact ((HOM4.out.set (o := 1) hdo hno rfl).set (o := 2) hdo hno rfl).done0 (i64small (by omega) (by omega)) (i64small (by omega) (by omega)) (i64small (by omega) (by omega)) (i64small (by decide) (by decide)) (by simp)
set_option maxHeartbeats 6400000 in
set_option maxRecDepth 100000 in
theorem mk21 {dd cb ob n k r : Nat} {kk : Int} {xs : List Int} {wn wo : World} {Q : Exit → Act → World → Prop} {s1 s2 s3 s4 s9 s10 s11 s12 s13 s14 s15 s16 s17 s18 s19 s20 s21 s22 s23 s24 s25 s26 s27 s28 s29 s30 s31 s32 s33 s34 s35 s36 s37 s38 s39 s40 s41 s42 s43 s44 s45 s46 s47 s48 s49 s50 s51 s52 s53 s54 s55 s56 s57 s58 s59 s60 s61 s62 s63 s64 s65 s66 s67 s68 s69 s70 s71 s72 s73 s74 s75 s76 s77 s78 s79 s80 s81 s82 s83 s84 s85 s86 s87 s88 s89 s90 s91 s92 s93 s94 s95 s96 s97 s98 s99 s100 s101 s102 s103 s104 s105 s106 s107 s108 s109 s110 s111 s112 s113 s114 s115 s116 s117 s118 s119 s120 s121 s122 s123 s124 s125 s126 s127 s128 s129 s130 s131 s132 s133 s134 s135 s136 s137 s138 s139 s140 s141 s142 s143 s144 s145 s146 s147 s148 s149 s150 s151 s152 s153 s154 s155 s156 s157 s158 s159 s160 s161 s162 s163 s164 s165 s166 s167 s168 s169 s170 s171 s172 s173 s174 s175 s176 s177 s178 s179 s180 s181 s182 s183 s184 s185 s186 s187 s188 s189 s190 s191 s192 s193 s194 s195 s196 s197 s198 s199 s200 s201 s202 s203 s204 s205 s206 s207 s208 : Value} {cd : Code} (hcode : (Tryd.f9.body.map (subC [1, 1, 1, 0, 1, 0, 0, 1, 0, 0, 1, 0, 1, 0, 1, 1, 1, 1, 1, 0])) = some cd)
    (hk1 : 1 ≤ kk ∧ kk ≤ 19) (hr1 : 1 ≤ r) (hr2 : r ≤ 200) (hn2 : n ≤ 14) (hlt : k < n) (hdo : dd < ob) (hno : wn.heap.size ≤ ob) (hob : ob ≤ wn.heap.size) (hcd : cb ≠ dd) (hco : cb < ob) (hom : Om dd ob xs wn wo (iv kk) (iv 0) (iv 0) (iv 0) (.slice none 0 0) (sv [])) (hcr : wo.cell? ⟨cb, 1, none⟩ = some (iv r))
    (hQ : ∀ (x9 x10 x32 x33 x34 x35 x36 x37 x38 x39 x40 x41 x42 x43 x44 x45 x46 x47 x48 x49 x50 x51 x52 x53 x54 x55 x56 x57 x58 x59 x60 x61 x62 x63 x64 x65 x66 x67 x68 x69 x70 x71 x72 x73 x74 x75 x76 x77 x78 x79 x80 x81 x82 x83 x84 x85 x86 x87 x88 x89 x90 x91 x92 x93 x94 x95 x96 x97 x98 x99 x100 x101 x102 x103 x104 x105 x106 x107 x108 x109 x110 x111 x112 x113 x114 x115 x116 x117 x118 x119 x120 x121 x122 x123 x124 x125 x126 x127 x128 x129 x130 x131 x132 x133 x134 x135 x136 x137 x138 x139 x140 x141 x142 x143 x144 x145 x146 x147 x148 x149 x150 x151 x152 x153 x154 x155 x156 x157 x158 x159 x160 x161 x162 x163 x164 x165 x166 x167 x168 x169 x170 x171 x172 x173 x174 x175 x176 x177 x178 x179 x180 x181 x182 x183 x184 x185 x186 x187 x188 x189 x190 x191 : Value) (w' : World), OpMk dd ob xs wn w' → Q .normal ⟨#[.pointer (some ⟨dd, 0, none⟩), s1, s2, s3, s4, .int .i64 (n : Int), .pointer (some ⟨cb, 0, none⟩), .int .i64 (k : Int), .pointer (some ⟨ob, 0, none⟩), x9, x10, s11, s12, s13, s14, s15, s16, s17, s18, s19, s20, s21, s22, s23, s24, s25, s26, s27, s28, s29, s30, s31, x32, x33, x34, x35, x36, x37, x38, x39, x40, x41, x42, x43, x44, x45, x46, x47, x48, x49, x50, x51, x52, x53, x54, x55, x56, x57, x58, x59, x60, x61, x62, x63, x64, x65, x66, x67, x68, x69, x70, x71, x72, x73, x74, x75, x76, x77, x78, x79, x80, x81, x82, x83, x84, x85, x86, x87, x88, x89, x90, x91, x92, x93, x94, x95, x96, x97, x98, x99, x100, x101, x102, x103, x104, x105, x106, x107, x108, x109, x110, x111, x112, x113, x114, x115, x116, x117, x118, x119, x120, x121, x122, x123, x124, x125, x126, x127, x128, x129, x130, x131, x132, x133, x134, x135, x136, x137, x138, x139, x140, x141, x142, x143, x144, x145, x146, x147, x148, x149, x150, x151, x152, x153, x154, x155, x156, x157, x158, x159, x160, x161, x162, x163, x164, x165, x166, x167, x168, x169, x170, x171, x172, x173, x174, x175, x176, x177, x178, x179, x180, x181, x182, x183, x184, x185, x186, x187, x188, x189, x190, x191, s192, s193, s194, s195, s196, s197, s198, s199, s200, s201, s202, s203, s204, s205, s206, s207, s208], []⟩ w') :
    cd.wp Tryd.prog Q ⟨#[.pointer (some ⟨dd, 0, none⟩), s1, s2, s3, s4, .int .i64 (n : Int), .pointer (some ⟨cb, 0, none⟩), .int .i64 (k : Int), .pointer (some ⟨ob, 0, none⟩), s9, s10, s11, s12, s13, s14, s15, s16, s17, s18, s19, s20, s21, s22, s23, s24, s25, s26, s27, s28, s29, s30, s31, s32, s33, s34, s35, s36, s37, s38, s39, s40, s41, s42, s43, s44, s45, s46, s47, s48, s49, s50, s51, s52, s53, s54, s55, s56, s57, s58, s59, s60, s61, s62, s63, s64, s65, s66, s67, s68, s69, s70, s71, s72, s73, s74, s75, s76, s77, s78, s79, s80, s81, s82, s83, s84, s85, s86, s87, s88, s89, s90, s91, s92, s93, s94, s95, s96, s97, s98, s99, s100, s101, s102, s103, s104, s105, s106, s107, s108, s109, s110, s111, s112, s113, s114, s115, s116, s117, s118, s119, s120, s121, s122, s123, s124, s125, s126, s127, s128, s129, s130, s131, s132, s133, s134, s135, s136, s137, s138, s139, s140, s141, s142, s143, s144, s145, s146, s147, s148, s149, s150, s151, s152, s153, s154, s155, s156, s157, s158, s159, s160, s161, s162, s163, s164, s165, s166, s167, s168, s169, s170, s171, s172, s173, s174, s175, s176, s177, s178, s179, s180, s181, s182, s183, s184, s185, s186, s187, s188, s189, s190, s191, s192, s193, s194, s195, s196, s197, s198, s199, s200, s201, s202, s203, s204, s205, s206, s207, s208], []⟩ wo := by
  obtain ⟨i1, hi1, hy0, hy1, hy2⟩ := info_parts infoI
  have hcode2 : some _ = some cd := hcode
  obtain rfl := Option.some.inj hcode2
  clear hcode hcode2
  conv in (subC _ _) => whnf
  have HQ := Lib.hid hQ
  clear hQ
  have HOM := Lib.hid hom
  have HCR := Lib.hid hcr
  clear hom hcr
  go_wp2_with fail
  refine wp_region_mix (fun u => u.cell? ⟨cb, 1, none⟩ = some (iv r)) [(true, 0), (true, 1), (true, 2), (true, 4), (true, 5), (true, 6), (true, 8), (true, 9), (true, 10), (false, 3), (true, 12), (false, 7), (false, 11)] [13, 14, 15, 16, 17] (by kernel_rfl) (by kernel_rfl) HCR.out ?ha3
  case ha3 =>
  simp only [mixAt, List.filterMap_cons, List.filterMap_nil, List.getElem?_toArray, List.getElem?_cons_succ, List.getElem?_cons_zero, Option.map_some]
  refine wpMix_load ?vaa30 rfl (fun w' hS => ?yaa30) ?kaa30
  case yaa30 =>
    obtain g0 := hS
    go_simp
    try rfl
  case kaa30 =>
  go_simp
  refine wpMix_load ?vaa31 rfl (fun w' hS => ?yaa31) ?kaa31
  case yaa31 =>
    obtain g0 := hS
    go_simp
    try rfl
  case kaa31 =>
  go_simp
  refine wpMix_load ?vaa32 rfl (fun w' hS => ?yaa32) ?kaa32
  case yaa32 =>
    obtain g0 := hS
    go_simp
    try rfl
  case kaa32 =>
  go_simp
  refine wpMix_load ?vaa33 rfl (fun w' hS => ?yaa33) ?kaa33
  case yaa33 =>
    obtain g0 := hS
    go_simp
    try rfl
  case kaa33 =>
  go_simp
  refine wpMix_load ?vaa34 rfl (fun w' hS => ?yaa34) ?kaa34
  case yaa34 =>
    obtain g0 := hS
    go_simp
    try rfl
  case kaa34 =>
  go_simp
  refine wpMix_load ?vaa35 rfl (fun w' hS => ?yaa35) ?kaa35
  case yaa35 =>
    obtain g0 := hS
    go_simp
    try rfl
  case kaa35 =>
  go_simp
  refine wpMix_load ?vaa36 rfl (fun w' hS => ?yaa36) ?kaa36
  case yaa36 =>
    obtain g0 := hS
    go_simp
    try rfl
  case kaa36 =>
  go_simp
  refine wpMix_load ?vaa37 rfl (fun w' hS => ?yaa37) ?kaa37
  case yaa37 =>
    obtain g0 := hS
    go_simp
    try rfl
  case kaa37 =>
  go_simp
  refine wpMix_load ?vaa38 rfl (fun w' hS => ?yaa38) ?kaa38
  case yaa38 =>
    obtain g0 := hS
    go_simp
    try rfl
  case kaa38 =>
  go_simp
  refine wpMix_keep rfl ?_
  go_wp2_with fail
  have HCRD : Hid (wo.drew.cell? ⟨cb, 1, none⟩ = some (iv r)) := Lib.hid HCR.out
  have HOMD := Lib.hid (HOM.out.below (Below.refl _ _).drew)
  refine (next_any r dd xs _ (by omega) (by omega) HOMD.out.dice).mono ?_
  rintro e w3 ⟨a, ha, rfl, hT, hK⟩
  have HOM3 := Lib.hid (HOMD.out.thrown hT hK (by omega))
  have HCR3 := Lib.hid (cr_kp HCRD.out hK hcd)
  clear hT hK
  refine ⟨HCR3.out, ?_⟩
  refine wpMix_load ?vab30 rfl (fun w' hS => ?yab30) ?kab30
  case yab30 =>
    obtain g0 := hS
    go_simp
    try rfl
  case kab30 =>
  go_simp
  refine wpMix_keep rfl ?_
  go_wp2_with fail
  refine (next_any r dd xs _ (by omega) (by omega) HOM3.out.dice).mono ?_
  rintro e w4 ⟨b, hb, rfl, hT, hK⟩
  have HOM4 := Lib.hid (HOM3.out.thrown hT hK (by omega))
  have HCR4 := Lib.hid (cr_kp HCR3.out hK hcd)
  clear hT hK
  refine ⟨HCR4.out, ?_⟩
  refine wpMix_keep rfl ?_
  go_wp2_with fail
  refine (next_any r dd xs _ (by omega) (by omega) HOM4.out.dice).mono ?_
  rintro e w5 ⟨c, hc, rfl, hT, hK⟩
  have HOM5 := Lib.hid (HOM4.out.thrown hT hK (by omega))
  have HCR5 := Lib.hid (cr_kp HCR4.out hK hcd)
  clear hT hK
  refine ⟨HCR5.out, ?_⟩
  refine wpMix_nil ?_
  simp only [opsAt, List.filterMap_cons, List.filterMap_nil, List.getElem?_toArray, List.getElem?_cons_succ, List.getElem?_cons_zero]
  obtain ⟨z0, z1, z2, z3, z4, z5⟩ := HOM5.out.z
  have f1 := HOM5.out.f 1
  have f2 := HOM5.out.f 2
  have f3 := HOM5.out.f 3
  have f4 := HOM5.out.f 4
  have f5 := HOM5.out.f 5
  go_wp2
  refine NoPanic.normal ?_
  go_wp2
  refine HQ.out _ _ _ _ _ _ _ _ _ _ _ _ _ _ _ _ _ _ _ _ _ _ _ _ _ _ _ _ _ _ _ _ _ _ _ _ _ _ _ _ _ _ _ _ _ _ _ _ _ _ _ _ _ _ _ _ _ _ _ _ _ _ _ _ _ _ _ _ _ _ _ _ _ _ _ _ _ _ _ _ _ _ _ _ _ _ _ _ _ _ _ _ _ _ _ _ _ _ _ _ _ _ _ _ _ _ _ _ _ _ _ _ _ _ _ _ _ _ _ _ _ _ _ _ _ _ _ _ _ _ _ _ _ _ _ _ _ _ _ _ _ _ _ _ _ _ _ _ _ _ _ _ _ _ _ _ _ _ _ _ _ _ _ ?_
  exact (((HOM5.out.set (o := 1) hdo hno rfl).set (o := 2) hdo hno rfl).set (o := 3) hdo hno rfl).done0 (i64small (by omega) (by omega)) (i64small (by omega) (by omega)) (i64small (by omega) (by omega)) (i64small (by omega) (by omega)) (by simp)
set_option maxHeartbeats 6400000 in
set_option maxRecDepth 100000 in
theorem mk42 {dd cb ob n k r : Nat} {xs : List Int} {wn wo : World} {Q : Exit → Act → World → Prop} {s1 s2 s3 s4 s9 s10 s11 s12 s13 s14 s15 s16 s17 s18 s19 s20 s21 s22 s23 s24 s25 s26 s27 s28 s29 s30 s31 s32 s33 s34 s35 s36 s37 s38 s39 s40 s41 s42 s43 s44 s45 s46 s47 s48 s49 s50 s51 s52 s53 s54 s55 s56 s57 s58 s59 s60 s61 s62 s63 s64 s65 s66 s67 s68 s69 s70 s71 s72 s73 s74 s75 s76 s77 s78 s79 s80 s81 s82 s83 s84 s85 s86 s87 s88 s89 s90 s91 s92 s93 s94 s95 s96 s97 s98 s99 s100 s101 s102 s103 s104 s105 s106 s107 s108 s109 s110 s111 s112 s113 s114 s115 s116 s117 s118 s119 s120 s121 s122 s123 s124 s125 s126 s127 s128 s129 s130 s131 s132 s133 s134 s135 s136 s137 s138 s139 s140 s141 s142 s143 s144 s145 s146 s147 s148 s149 s150 s151 s152 s153 s154 s155 s156 s157 s158 s159 s160 s161 s162 s163 s164 s165 s166 s167 s168 s169 s170 s171 s172 s173 s174 s175 s176 s177 s178 s179 s180 s181 s182 s183 s184 s185 s186 s187 s188 s189 s190 s191 s192 s193 s194 s195 s196 s197 s198 s199 s200 s201 s202 s203 s204 s205 s206 s207 s208 : Value} {cd : Code} (hcode : (Tryd.f9.body.map (subC [1, 1, 1, 0, 1, 0, 0, 1, 0, 0, 1, 0, 1, 0, 1, 1, 1, 1, 1, 1, 1, 1, 1, 1, 1, 1, 1, 0])) = some cd)
    (hr1 : 1 ≤ r) (hr2 : r ≤ 200) (hn2 : n ≤ 14) (hlt : k < n) (hdo : dd < ob) (hno : wn.heap.size ≤ ob) (hob : ob ≤ wn.heap.size) (hcd : cb ≠ dd) (hco : cb < ob) (hom : Om dd ob xs wn wo (iv 16) (iv 0) (iv 0) (iv 0) (.slice none 0 0) (sv [])) (hcr : wo.cell? ⟨cb, 1, none⟩ = some (iv r))
    (hQ : ∀ (x9 x10 x32 x33 x34 x35 x36 x37 x38 x39 x40 x41 x42 x43 x44 x45 x46 x47 x48 x49 x50 x51 x52 x53 x54 x55 x56 x57 x58 x59 x60 x61 x62 x63 x64 x65 x66 x67 x68 x69 x70 x71 x72 x73 x74 x75 x76 x77 x78 x79 x80 x81 x82 x83 x84 x85 x86 x87 x88 x89 x90 x91 x92 x93 x94 x95 x96 x97 x98 x99 x100 x101 x102 x103 x104 x105 x106 x107 x108 x109 x110 x111 x112 x113 x114 x115 x116 x117 x118 x119 x120 x121 x122 x123 x124 x125 x126 x127 x128 x129 x130 x131 x132 x133 x134 x135 x136 x137 x138 x139 x140 x141 x142 x143 x144 x145 x146 x147 x148 x149 x150 x151 x152 x153 x154 x155 x156 x157 x158 x159 x160 x161 x162 x163 x164 x165 x166 x167 x168 x169 x170 x171 x172 x173 x174 x175 x176 x177 x178 x179 x180 x181 x182 x183 x184 x185 x186 x187 x188 x189 x190 x191 : Value) (w' : World), OpMk dd ob xs wn w' → Q .normal ⟨#[.pointer (some ⟨dd, 0, none⟩), s1, s2, s3, s4, .int .i64 (n : Int), .pointer (some ⟨cb, 0, none⟩), .int .i64 (k : Int), .pointer (some ⟨ob, 0, none⟩), x9, x10, s11, s12, s13, s14, s15, s16, s17, s18, s19, s20, s21, s22, s23, s24, s25, s26, s27, s28, s29, s30, s31, x32, x33, x34, x35, x36, x37, x38, x39, x40, x41, x42, x43, x44, x45, x46, x47, x48, x49, x50, x51, x52, x53, x54, x55, x56, x57, x58, x59, x60, x61, x62, x63, x64, x65, x66, x67, x68, x69, x70, x71, x72, x73, x74, x75, x76, x77, x78, x79, x80, x81, x82, x83, x84, x85, x86, x87, x88, x89, x90, x91, x92, x93, x94, x95, x96, x97, x98, x99, x100, x101, x102, x103, x104, x105, x106, x107, x108, x109, x110, x111, x112, x113, x114, x115, x116, x117, x118, x119, x120, x121, x122, x123, x124, x125, x126, x127, x128, x129, x130, x131, x132, x133, x134, x135, x136, x137, x138, x139, x140, x141, x142, x143, x144, x145, x146, x147, x148, x149, x150, x151, x152, x153, x154, x155, x156, x157, x158, x159, x160, x161, x162, x163, x164, x165, x166, x167, x168, x169, x170, x171, x172, x173, x174, x175, x176, x177, x178, x179, x180, x181, x182, x183, x184, x185, x186, x187, x188, x189, x190, x191, s192, s193, s194, s195, s196, s197, s198, s199, s200, s201, s202, s203, s204, s205, s206, s207, s208], []⟩ w') :
    cd.wp Tryd.prog Q ⟨#[.pointer (some ⟨dd, 0, none⟩), s1, s2, s3, s4, .int .i64 (n : Int), .pointer (some ⟨cb, 0, none⟩), .int .i64 (k : Int), .pointer (some ⟨ob, 0, none⟩), s9, s10, s11, s12, s13, s14, s15, s16, s17, s18, s19, s20, s21, s22, s23, s24, s25, s26, s27, s28, s29, s30, s31, s32, s33, s34, s35, s36, s37, s38, s39, s40, s41, s42, s43, s44, s45, s46, s47, s48, s49, s50, s51, s52, s53, s54, s55, s56, s57, s58, s59, s60, s61, s62, s63, s64, s65, s66, s67, s68, s69, s70, s71, s72, s73, s74, s75, s76, s77, s78, s79, s80, s81, s82, s83, s84, s85, s86, s87, s88, s89, s90, s91, s92, s93, s94, s95, s96, s97, s98, s99, s100, s101, s102, s103, s104, s105, s106, s107, s108, s109, s110, s111, s112, s113, s114, s115, s116, s117, s118, s119, s120, s121, s122, s123, s124, s125, s126, s127, s128, s129, s130, s131, s132, s133, s134, s135, s136, s137, s138, s139, s140, s141, s142, s143, s144, s145, s146, s147, s148, s149, s150, s151, s152, s153, s154, s155, s156, s157, s158, s159, s160, s161, s162, s163, s164, s165, s166, s167, s168, s169, s170, s171, s172, s173, s174, s175, s176, s177, s178, s179, s180, s181, s182, s183, s184, s185, s186, s187, s188, s189, s190, s191, s192, s193, s194, s195, s196, s197, s198, s199, s200, s201, s202, s203, s204, s205, s206, s207, s208], []⟩ wo := by
  obtain ⟨i1, hi1, hy0, hy1, hy2⟩ := info_parts infoI
  have hcode2 : some _ = some cd := hcode
  obtain rfl := Option.some.inj hcode2
  clear hcode hcode2
  conv in (subC _ _) => whnf
  have HQ := Lib.hid hQ
  clear hQ
  have HOM := Lib.hid hom
  have HCR := Lib.hid hcr
  clear hom hcr
  go_wp2_with fail
  refine wp_region_mix (fun u => u.cell? ⟨cb, 1, none⟩ = some (iv r)) [(true, 0), (true, 1), (true, 2), (true, 4), (true, 5), (true, 6), (true, 8), (false, 3), (true, 10), (false, 7), (false, 9)] [11, 12, 13, 14, 15] (by kernel_rfl) (by kernel_rfl) HCR.out ?ha16
  case ha16 =>
  simp only [mixAt, List.filterMap_cons, List.filterMap_nil, List.getElem?_toArray, List.getElem?_cons_succ, List.getElem?_cons_zero, Option.map_some]
  refine wpMix_load ?vaa160 rfl (fun w' hS => ?yaa160) ?kaa160
  case yaa160 =>
    obtain g0 := hS
    go_simp
    try rfl
  case kaa160 =>
  go_simp
  refine wpMix_load ?vaa161 rfl (fun w' hS => ?yaa161) ?kaa161
  case yaa161 =>
    obtain g0 := hS
    go_simp
    try rfl
  case kaa161 =>
  go_simp
  refine wpMix_load ?vaa162 rfl (fun w' hS => ?yaa162) ?kaa162
  case yaa162 =>
    obtain g0 := hS
    go_simp
    try rfl
  case kaa162 =>
  go_simp
  refine wpMix_load ?vaa163 rfl (fun w' hS => ?yaa163) ?kaa163
  case yaa163 =>
    obtain g0 := hS
    go_simp
    try rfl
  case kaa163 =>
  go_simp
  refine wpMix_load ?vaa164 rfl (fun w' hS => ?yaa164) ?kaa164
  case yaa164 =>
    obtain g0 := hS
    go_simp
    try rfl
  case kaa164 =>
  go_simp
  refine wpMix_load ?vaa165 rfl (fun w' hS => ?yaa165) ?kaa165
  case yaa165 =>
    obtain g0 := hS
    go_simp
    try rfl
  case kaa165 =>
  go_simp
  refine wpMix_load ?vaa166 rfl (fun w' hS => ?yaa166) ?kaa166
  case yaa166 =>
    obtain g0 := hS
    go_simp
    try rfl
  case kaa166 =>
  go_simp
  refine wpMix_keep rfl ?_
  go_wp2_with fail
  have HCRD : Hid (wo.drew.cell? ⟨cb, 1, none⟩ = some (iv r)) := Lib.hid HCR.out
  have HOMD := Lib.hid (HOM.out.below (Below.refl _ _).drew)
  refine (next_any r dd xs _ (by omega) (by omega) HOMD.out.dice).mono ?_
  rintro e w3 ⟨a, ha, rfl, hT, hK⟩
  have HOM3 := Lib.hid (HOMD.out.thrown hT hK (by omega))
  have HCR3 := Lib.hid (cr_kp HCRD.out hK hcd)
  clear hT hK
  refine ⟨HCR3.out, ?_⟩
  refine wpMix_load ?vab160 rfl (fun w' hS => ?yab160) ?kab160
  case yab160 =>
    obtain g0 := hS
    go_simp
    try rfl
  case kab160 =>
  go_simp
  refine wpMix_keep rfl ?_
  go_wp2_with fail
  refine (next_any r dd xs _ (by omega) (by omega) HOM3.out.dice).mono ?_
  rintro e w4 ⟨b, hb, rfl, hT, hK⟩
  have HOM4 := Lib.hid (HOM3.out.thrown hT hK (by omega))
  have HCR4 := Lib.hid (cr_kp HCR3.out hK hcd)
  clear hT hK
  refine ⟨HCR4.out, ?_⟩
  refine wpMix_keep rfl ?_
  go_wp2_with fail
  refine (next_any 2 dd xs _ (by omega) (by omega) HOM4.out.dice).mono ?_
  rintro e w5 ⟨c, hc, rfl, hT, hK⟩
  have HOM5 := Lib.hid (HOM4.out.thrown hT hK (by omega))
  have HCR5 := Lib.hid (cr_kp HCR4.out hK hcd)
  clear hT hK
  refine ⟨HCR5.out, ?_⟩
  refine wpMix_nil ?_
  simp only [opsAt, List.filterMap_cons, List.filterMap_nil, List.getElem?_toArray, List.getElem?_cons_succ, List.getElem?_cons_zero]
  obtain ⟨z0, z1, z2, z3, z4, z5⟩ := HOM5.out.z
  have f1 := HOM5.out.f 1
  have f2 := HOM5.out.f 2
  have f3 := HOM5.out.f 3
  have f4 := HOM5.out.f 4
  have f5 := HOM5.out.f 5
  go_wp2
  refine NoPanic.normal ?_
  go_wp2
  refine HQ.out _ _ _ _ _ _ _ _ _ _ _ _ _ _ _ _ _ _ _ _ _ _ _ _ _ _ _ _ _ _ _ _ _ _ _ _ _ _ _ _ _ _ _ _ _ _ _ _ _ _ _ _ _ _ _ _ _ _ _ _ _ _ _ _ _ _ _ _ _ _ _ _ _ _ _ _ _ _ _ _ _ _ _ _ _ _ _ _ _ _ _ _ _ _ _ _ _ _ _ _ _ _ _ _ _ _ _ _ _ _ _ _ _ _ _ _ _ _ _ _ _ _ _ _ _ _ _ _ _ _ _ _ _ _ _ _ _ _ _ _ _ _ _ _ _ _ _ _ _ _ _ _ _ _ _ _ _ _ _ _ _ _ _ ?_
  exact (((HOM5.out.set (o := 1) hdo hno rfl).set (o := 2) hdo hno rfl).set (o := 3) hdo hno rfl).done0 (i64small (by decide) (by decide)) (i64small (by omega) (by omega)) (i64small (by omega) (by omega)) (i64small (by omega) (by omega)) (by simp)
end Go.Proofs.YtkggmckfdkpldaaDoor
