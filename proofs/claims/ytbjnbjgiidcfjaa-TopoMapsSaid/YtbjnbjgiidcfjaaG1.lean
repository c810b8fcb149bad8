/- For each Go function that the laws reach: a function on plain values with the same answers, and the proof that the call comes to them (none: nothing is told). Conditions: none beside each theorem's own. Written by gen.py out of the print of the loaded program. -/
import Derived.Test.YtbjnbjgiidcfjaaProg
import Derived.Test.YtbjnbjgiidcfjaaSp19
import Derived.KernelRfl
set_option linter.unusedVariables false
set_option linter.unusedSimpArgs false
namespace Go.Proofs.Ytbjnbjgiidcfjaa
open Go Go.Proofs.Ytbjnbjgiidcfjaa.Sp

structure T_api_Head where
  f_Age : Int
  f_Kind : Int
  f_Id : Int
  f_Adv : Int
  f_Seq : Int
  f_Sum : Int
  f_Len : Int
  deriving Inhabited, DecidableEq
def enc_T_api_Head (x : T_api_Head) : List Value := [.int .i64 x.f_Age, .int .i64 x.f_Kind, .int .i64 x.f_Id, .int .i64 x.f_Adv, .int .i64 x.f_Seq, .int .i64 x.f_Sum, .int .i64 x.f_Len]
theorem len_T_api_Head (x : T_api_Head) : (enc_T_api_Head x).length = 7 := rfl
theorem one_T_api_Head (x : T_api_Head) : ∀ v ∈ enc_T_api_Head x, v.oneCell' = true := by intro v hv; simp only [enc_T_api_Head, List.mem_cons, List.not_mem_nil, or_false] at hv; rcases hv with rfl | rfl | rfl | rfl | rfl | rfl | rfl <;> rfl
def k_T_api_Head : Kd T_api_Head := kFlat enc_T_api_Head 7 len_T_api_Head one_T_api_Head
structure T_api_Link where
  f_Kind : Int
  f_Id : Int
  f_Data : Int
  f_Cost : Int
  deriving Inhabited, DecidableEq
def enc_T_api_Link (x : T_api_Link) : List Value := [.int .i64 x.f_Kind, .int .i64 x.f_Id, .int .i64 x.f_Data, .int .i64 x.f_Cost]
theorem len_T_api_Link (x : T_api_Link) : (enc_T_api_Link x).length = 4 := rfl
theorem one_T_api_Link (x : T_api_Link) : ∀ v ∈ enc_T_api_Link x, v.oneCell' = true := by intro v hv; simp only [enc_T_api_Link, List.mem_cons, List.not_mem_nil, or_false] at hv; rcases hv with rfl | rfl | rfl | rfl <;> rfl
def k_T_api_Link : Kd T_api_Link := kFlat enc_T_api_Link 4 len_T_api_Link one_T_api_Link
structure T_api_Vert where
  f_Kind : Int
  f_Id : Int
  deriving Inhabited, DecidableEq
def enc_T_api_Vert (x : T_api_Vert) : List Value := [.int .i64 x.f_Kind, .int .i64 x.f_Id]
theorem len_T_api_Vert (x : T_api_Vert) : (enc_T_api_Vert x).length = 2 := rfl
theorem one_T_api_Vert (x : T_api_Vert) : ∀ v ∈ enc_T_api_Vert x, v.oneCell' = true := by intro v hv; simp only [enc_T_api_Vert, List.mem_cons, List.not_mem_nil, or_false] at hv; rcases hv with rfl | rfl <;> rfl
def k_T_api_Vert : Kd T_api_Vert := kFlat enc_T_api_Vert 2 len_T_api_Vert one_T_api_Vert
structure T_api_Lsa where
  f_Head : T_api_Head
  f_Flags : Int
  f_Links : List T_api_Link
  f_Bits : Int
  f_Routers : List Int
  f_Verts : List T_api_Vert
  deriving Inhabited, DecidableEq
def k_T_api_Lsa : Kd T_api_Lsa := kIso (kPair k_T_api_Head (kPair (kInt .i64) (kPair (kSl k_T_api_Link) (kPair (kInt .i64) (kPair (kSl (kInt .i64)) (kSl k_T_api_Vert)))))) (fun x => (x.f_Head, x.f_Flags, x.f_Links, x.f_Bits, x.f_Routers, x.f_Verts))
theorem rd_T_api_Lsa {G : Hp} {cs : List Value} {x : T_api_Lsa} (h : k_T_api_Lsa.rd G cs x) : ∃ (A8 : Option Addr) (c8 : Nat) (A10 : Option Addr) (c10 : Nat) (A11 : Option Addr) (c11 : Nat), cs = [.int .i64 x.f_Head.f_Age, .int .i64 x.f_Head.f_Kind, .int .i64 x.f_Head.f_Id, .int .i64 x.f_Head.f_Adv, .int .i64 x.f_Head.f_Seq, .int .i64 x.f_Head.f_Sum, .int .i64 x.f_Head.f_Len, .int .i64 x.f_Flags, .slice A8 x.f_Links.length c8, .int .i64 x.f_Bits, .slice A10 x.f_Routers.length c10, .slice A11 x.f_Verts.length c11] ∧ RdS k_T_api_Link G A8 c8 x.f_Links ∧ RdS (kInt .i64) G A10 c10 x.f_Routers ∧ RdS k_T_api_Vert G A11 c11 x.f_Verts := by
  obtain ⟨_, _, rfl, rfl, ⟨_, _, rfl, rfl, ⟨_, _, rfl, ⟨A8, c8, rfl, h8⟩, ⟨_, _, rfl, rfl, ⟨_, _, rfl, ⟨A10, c10, rfl, h10⟩, ⟨A11, c11, rfl, h11⟩⟩⟩⟩⟩⟩ := h
  exact ⟨A8, c8, A10, c10, A11, c11, rfl, h8, h10, h11⟩
theorem mk_T_api_Lsa {G : Hp} {x : T_api_Lsa} {A8 : Option Addr} {c8 : Nat} {A10 : Option Addr} {c10 : Nat} {A11 : Option Addr} {c11 : Nat} (h8 : RdS k_T_api_Link G A8 c8 x.f_Links) (h10 : RdS (kInt .i64) G A10 c10 x.f_Routers) (h11 : RdS k_T_api_Vert G A11 c11 x.f_Verts) : k_T_api_Lsa.rd G [.int .i64 x.f_Head.f_Age, .int .i64 x.f_Head.f_Kind, .int .i64 x.f_Head.f_Id, .int .i64 x.f_Head.f_Adv, .int .i64 x.f_Head.f_Seq, .int .i64 x.f_Head.f_Sum, .int .i64 x.f_Head.f_Len, .int .i64 x.f_Flags, .slice A8 x.f_Links.length c8, .int .i64 x.f_Bits, .slice A10 x.f_Routers.length c10, .slice A11 x.f_Verts.length c11] x :=
  ⟨_, _, rfl, rfl, ⟨_, _, rfl, rfl, ⟨_, _, rfl, ⟨_, _, rfl, h8⟩, ⟨_, _, rfl, rfl, ⟨_, _, rfl, ⟨_, _, rfl, h10⟩, ⟨_, _, rfl, h11⟩⟩⟩⟩⟩⟩
structure T_api_Key where
  f_Kind : Int
  f_Id : Int
  f_Adv : Int
  deriving Inhabited, DecidableEq
def enc_T_api_Key (x : T_api_Key) : List Value := [.int .i64 x.f_Kind, .int .i64 x.f_Id, .int .i64 x.f_Adv]
theorem len_T_api_Key (x : T_api_Key) : (enc_T_api_Key x).length = 3 := rfl
theorem one_T_api_Key (x : T_api_Key) : ∀ v ∈ enc_T_api_Key x, v.oneCell' = true := by intro v hv; simp only [enc_T_api_Key, List.mem_cons, List.not_mem_nil, or_false] at hv; rcases hv with rfl | rfl | rfl <;> rfl
def k_T_api_Key : Kd T_api_Key := kFlat enc_T_api_Key 3 len_T_api_Key one_T_api_Key
structure T_topo_area where
  f_routers : List T_api_Lsa
  f_networks : List T_api_Lsa
  f_router : List (Int × T_api_Lsa)
  f_network : List (Int × T_api_Lsa)
  deriving Inhabited, DecidableEq
structure T_api_Edge where
  f_From : T_api_Vert
  f_To : T_api_Vert
  f_Cost : Int
  f_Data : Int
  deriving Inhabited, DecidableEq
def enc_T_api_Edge (x : T_api_Edge) : List Value := [.int .i64 x.f_From.f_Kind, .int .i64 x.f_From.f_Id, .int .i64 x.f_To.f_Kind, .int .i64 x.f_To.f_Id, .int .i64 x.f_Cost, .int .i64 x.f_Data]
theorem len_T_api_Edge (x : T_api_Edge) : (enc_T_api_Edge x).length = 6 := rfl
theorem one_T_api_Edge (x : T_api_Edge) : ∀ v ∈ enc_T_api_Edge x, v.oneCell' = true := by intro v hv; simp only [enc_T_api_Edge, List.mem_cons, List.not_mem_nil, or_false] at hv; rcases hv with rfl | rfl | rfl | rfl | rfl | rfl <;> rfl
def k_T_api_Edge : Kd T_api_Edge := kFlat enc_T_api_Edge 6 len_T_api_Edge one_T_api_Edge
structure T_api_Stub where
  f_Router : Int
  f_Prefix : Int
  f_Bits : Int
  f_Cost : Int
  deriving Inhabited, DecidableEq
def enc_T_api_Stub (x : T_api_Stub) : List Value := [.int .i64 x.f_Router, .int .i64 x.f_Prefix, .int .i64 x.f_Bits, .int .i64 x.f_Cost]
theorem len_T_api_Stub (x : T_api_Stub) : (enc_T_api_Stub x).length = 4 := rfl
theorem one_T_api_Stub (x : T_api_Stub) : ∀ v ∈ enc_T_api_Stub x, v.oneCell' = true := by intro v hv; simp only [enc_T_api_Stub, List.mem_cons, List.not_mem_nil, or_false] at hv; rcases hv with rfl | rfl | rfl | rfl <;> rfl
def k_T_api_Stub : Kd T_api_Stub := kFlat enc_T_api_Stub 4 len_T_api_Stub one_T_api_Stub
structure T_api_Span where
  f_Vert : T_api_Vert
  f_Prefix : Int
  f_Bits : Int
  deriving Inhabited, DecidableEq
def enc_T_api_Span (x : T_api_Span) : List Value := [.int .i64 x.f_Vert.f_Kind, .int .i64 x.f_Vert.f_Id, .int .i64 x.f_Prefix, .int .i64 x.f_Bits]
theorem len_T_api_Span (x : T_api_Span) : (enc_T_api_Span x).length = 4 := rfl
theorem one_T_api_Span (x : T_api_Span) : ∀ v ∈ enc_T_api_Span x, v.oneCell' = true := by intro v hv; simp only [enc_T_api_Span, List.mem_cons, List.not_mem_nil, or_false] at hv; rcases hv with rfl | rfl | rfl | rfl <;> rfl
def k_T_api_Span : Kd T_api_Span := kFlat enc_T_api_Span 4 len_T_api_Span one_T_api_Span
structure T_api_Map where
  f_Verts : List T_api_Vert
  f_Edges : List T_api_Edge
  f_Stubs : List T_api_Stub
  f_Spans : List T_api_Span
  f_Wilds : List Int
  deriving Inhabited, DecidableEq
def k_T_api_Map : Kd T_api_Map := kIso (kPair (kSl k_T_api_Vert) (kPair (kSl k_T_api_Edge) (kPair (kSl k_T_api_Stub) (kPair (kSl k_T_api_Span) (kSl (kInt .i64)))))) (fun x => (x.f_Verts, x.f_Edges, x.f_Stubs, x.f_Spans, x.f_Wilds))
theorem rd_T_api_Map {G : Hp} {cs : List Value} {x : T_api_Map} (h : k_T_api_Map.rd G cs x) : ∃ (A0 : Option Addr) (c0 : Nat) (A1 : Option Addr) (c1 : Nat) (A2 : Option Addr) (c2 : Nat) (A3 : Option Addr) (c3 : Nat) (A4 : Option Addr) (c4 : Nat), cs = [.slice A0 x.f_Verts.length c0, .slice A1 x.f_Edges.length c1, .slice A2 x.f_Stubs.length c2, .slice A3 x.f_Spans.length c3, .slice A4 x.f_Wilds.length c4] ∧ RdS k_T_api_Vert G A0 c0 x.f_Verts ∧ RdS k_T_api_Edge G A1 c1 x.f_Edges ∧ RdS k_T_api_Stub G A2 c2 x.f_Stubs ∧ RdS k_T_api_Span G A3 c3 x.f_Spans ∧ RdS (kInt .i64) G A4 c4 x.f_Wilds := by
  obtain ⟨_, _, rfl, ⟨A0, c0, rfl, h0⟩, ⟨_, _, rfl, ⟨A1, c1, rfl, h1⟩, ⟨_, _, rfl, ⟨A2, c2, rfl, h2⟩, ⟨_, _, rfl, ⟨A3, c3, rfl, h3⟩, ⟨A4, c4, rfl, h4⟩⟩⟩⟩⟩ := h
  exact ⟨A0, c0, A1, c1, A2, c2, A3, c3, A4, c4, rfl, h0, h1, h2, h3, h4⟩
theorem mk_T_api_Map {G : Hp} {x : T_api_Map} {A0 : Option Addr} {c0 : Nat} {A1 : Option Addr} {c1 : Nat} {A2 : Option Addr} {c2 : Nat} {A3 : Option Addr} {c3 : Nat} {A4 : Option Addr} {c4 : Nat} (h0 : RdS k_T_api_Vert G A0 c0 x.f_Verts) (h1 : RdS k_T_api_Edge G A1 c1 x.f_Edges) (h2 : RdS k_T_api_Stub G A2 c2 x.f_Stubs) (h3 : RdS k_T_api_Span G A3 c3 x.f_Spans) (h4 : RdS (kInt .i64) G A4 c4 x.f_Wilds) : k_T_api_Map.rd G [.slice A0 x.f_Verts.length c0, .slice A1 x.f_Edges.length c1, .slice A2 x.f_Stubs.length c2, .slice A3 x.f_Spans.length c3, .slice A4 x.f_Wilds.length c4] x :=
  ⟨_, _, rfl, ⟨_, _, rfl, h0⟩, ⟨_, _, rfl, ⟨_, _, rfl, h1⟩, ⟨_, _, rfl, ⟨_, _, rfl, h2⟩, ⟨_, _, rfl, ⟨_, _, rfl, h3⟩, ⟨_, _, rfl, h4⟩⟩⟩⟩⟩
def fs32 : Array Field := #[Field.mk "Verts" 26 0 false "" "" 0, Field.mk "Edges" 27 1 false "" "" 24, Field.mk "Stubs" 28 2 false "" "" 48, Field.mk "Spans" 29 3 false "" "" 72, Field.mk "Wilds" 30 4 false "" "" 96]
def ds32 : TypeDesc := .struct fs32
def fs35 : Array Field := #[Field.mk "Kind" 3 0 false "" "" 0, Field.mk "Id" 3 1 false "" "" 8]
def ds35 : TypeDesc := .struct fs35
def fs37 : Array Field := #[Field.mk "From" 35 0 false "" "" 0, Field.mk "To" 35 2 false "" "" 16, Field.mk "Cost" 3 4 false "" "" 32, Field.mk "Data" 3 5 false "" "" 40]
def ds37 : TypeDesc := .struct fs37
def fs41 : Array Field := #[Field.mk "Age" 3 0 false "" "" 0, Field.mk "Kind" 3 1 false "" "" 8, Field.mk "Id" 3 2 false "" "" 16, Field.mk "Adv" 3 3 false "" "" 24, Field.mk "Seq" 3 4 false "" "" 32, Field.mk "Sum" 3 5 false "" "" 40, Field.mk "Len" 3 6 false "" "" 48]
def ds41 : TypeDesc := .struct fs41
def fs44 : Array Field := #[Field.mk "Head" 41 0 false "" "" 0, Field.mk "Flags" 3 7 false "" "" 56, Field.mk "Links" 42 8 false "" "" 64, Field.mk "Bits" 3 9 false "" "" 88, Field.mk "Routers" 30 10 false "" "" 96, Field.mk "Verts" 26 11 false "" "" 120]
def ds44 : TypeDesc := .struct fs44
def fs56 : Array Field := #[Field.mk "Kind" 3 0 false "" "" 0, Field.mk "Id" 3 1 false "" "" 8, Field.mk "Data" 3 2 false "" "" 16, Field.mk "Cost" 3 3 false "" "" 24]
def ds56 : TypeDesc := .struct fs56
def fs61 : Array Field := #[Field.mk "routers" 24 0 false "" "plenum/topo" 0, Field.mk "networks" 24 1 false "" "plenum/topo" 24, Field.mk "router" 59 2 false "" "plenum/topo" 48, Field.mk "network" 59 3 false "" "plenum/topo" 56]
def ds61 : TypeDesc := .struct fs61
def fs72 : Array Field := #[Field.mk "Router" 3 0 false "" "" 0, Field.mk "Prefix" 3 1 false "" "" 8, Field.mk "Bits" 3 2 false "" "" 16, Field.mk "Cost" 3 3 false "" "" 24]
def ds72 : TypeDesc := .struct fs72
def fs74 : Array Field := #[Field.mk "Vert" 35 0 false "" "" 0, Field.mk "Prefix" 3 2 false "" "" 16, Field.mk "Bits" 3 3 false "" "" 24]
def ds74 : TypeDesc := .struct fs74
def fs78 : Array Field := #[Field.mk "Kind" 3 0 false "" "" 0, Field.mk "Id" 3 1 false "" "" 8, Field.mk "Adv" 3 2 false "" "" 16]
def ds78 : TypeDesc := .struct fs78
theorem eg35 : Try.prog.eqGuardType Try.prog.depth 35 = false := by kernel_rfl
theorem eg37 : Try.prog.eqGuardType Try.prog.depth 37 = false := by kernel_rfl
theorem eg72 : Try.prog.eqGuardType Try.prog.depth 72 = false := by kernel_rfl
theorem eg74 : Try.prog.eqGuardType Try.prog.depth 74 = false := by kernel_rfl
theorem eg78 : Try.prog.eqGuardType Try.prog.depth 78 = false := by kernel_rfl
theorem eq_T_api_Vert (x y : T_api_Vert) : ((x.f_Kind == y.f_Kind) && ((x.f_Id == y.f_Id) && (true))) = decide (x = y) := by
  obtain ⟨v1, v2⟩ := x
  obtain ⟨v3, v4⟩ := y
  rw [Bool.eq_iff_iff]
  simp [bytes_eq, and_assoc]
theorem eq_T_api_Edge (x y : T_api_Edge) : (((x.f_From.f_Kind == y.f_From.f_Kind) && ((x.f_From.f_Id == y.f_From.f_Id) && (true))) && (((x.f_To.f_Kind == y.f_To.f_Kind) && ((x.f_To.f_Id == y.f_To.f_Id) && (true))) && ((x.f_Cost == y.f_Cost) && ((x.f_Data == y.f_Data) && (true))))) = decide (x = y) := by
  obtain ⟨⟨v1, v2⟩, ⟨v3, v4⟩, v5, v6⟩ := x
  obtain ⟨⟨v7, v8⟩, ⟨v9, v10⟩, v11, v12⟩ := y
  rw [Bool.eq_iff_iff]
  simp [bytes_eq, and_assoc]
theorem eq_T_api_Stub (x y : T_api_Stub) : ((x.f_Router == y.f_Router) && ((x.f_Prefix == y.f_Prefix) && ((x.f_Bits == y.f_Bits) && ((x.f_Cost == y.f_Cost) && (true))))) = decide (x = y) := by
  obtain ⟨v1, v2, v3, v4⟩ := x
  obtain ⟨v5, v6, v7, v8⟩ := y
  rw [Bool.eq_iff_iff]
  simp [bytes_eq, and_assoc]
theorem eq_T_api_Span (x y : T_api_Span) : (((x.f_Vert.f_Kind == y.f_Vert.f_Kind) && ((x.f_Vert.f_Id == y.f_Vert.f_Id) && (true))) && ((x.f_Prefix == y.f_Prefix) && ((x.f_Bits == y.f_Bits) && (true)))) = decide (x = y) := by
  obtain ⟨⟨v1, v2⟩, v3, v4⟩ := x
  obtain ⟨⟨v5, v6⟩, v7, v8⟩ := y
  rw [Bool.eq_iff_iff]
  simp [bytes_eq, and_assoc]
theorem eq_T_api_Key (x y : T_api_Key) : ((x.f_Kind == y.f_Kind) && ((x.f_Id == y.f_Id) && ((x.f_Adv == y.f_Adv) && (true)))) = decide (x = y) := by
  obtain ⟨v1, v2, v3⟩ := x
  obtain ⟨v4, v5, v6⟩ := y
  rw [Bool.eq_iff_iff]
  simp [bytes_eq, and_assoc]
theorem isf10 : IsF Try.prog 10 := IsF.mk Try.func10 rfl rfl
theorem isf11 : IsF Try.prog 11 := IsF.mk Try.func11 rfl rfl
theorem isf12 : IsF Try.prog 12 := IsF.mk Try.func12 rfl rfl
theorem isf13 : IsF Try.prog 13 := IsF.mk Try.func13 rfl rfl
theorem isf14 : IsF Try.prog 14 := IsF.mk Try.func14 rfl rfl
theorem isf15 : IsF Try.prog 15 := IsF.mk Try.func15 rfl rfl
theorem isf16 : IsF Try.prog 16 := IsF.mk Try.func16 rfl rfl
theorem isf17 : IsF Try.prog 17 := IsF.mk Try.func17 rfl rfl
theorem isf18 : IsF Try.prog 18 := IsF.mk Try.func18 rfl rfl
theorem isf19 : IsF Try.prog 19 := IsF.mk Try.func19 rfl rfl
theorem isf20 : IsF Try.prog 20 := IsF.mk Try.func20 rfl rfl
theorem isf21 : IsF Try.prog 21 := IsF.mk Try.func21 rfl rfl
theorem isf22 : IsF Try.prog 22 := IsF.mk Try.func22 rfl rfl
theorem isf23 : IsF Try.prog 23 := IsF.mk Try.func23 rfl rfl
theorem isf24 : IsF Try.prog 24 := IsF.mk Try.func24 rfl rfl
theorem isf25 : IsF Try.prog 25 := IsF.mk Try.func25 rfl rfl
theorem isf26 : IsF Try.prog 26 := IsF.mk Try.func26 rfl rfl
theorem isf27 : IsF Try.prog 27 := IsF.mk Try.func27 rfl rfl
theorem isf28 : IsF Try.prog 28 := IsF.mk Try.func28 rfl rfl
theorem isf29 : IsF Try.prog 29 := IsF.mk Try.func29 rfl rfl
theorem isf30 : IsF Try.prog 30 := IsF.mk Try.func30 rfl rfl
theorem isf31 : IsF Try.prog 31 := IsF.mk Try.func31 rfl rfl
theorem isf32 : IsF Try.prog 32 := IsF.mk Try.func32 rfl rfl
theorem isf33 : IsF Try.prog 33 := IsF.mk Try.func33 rfl rfl
theorem isf34 : IsF Try.prog 34 := IsF.mk Try.func34 rfl rfl
theorem isf35 : IsF Try.prog 35 := IsF.mk Try.func35 rfl rfl
theorem isf36 : IsF Try.prog 36 := IsF.mk Try.func36 rfl rfl
theorem isf37 : IsF Try.prog 37 := IsF.mk Try.func37 rfl rfl
theorem isf38 : IsF Try.prog 38 := IsF.mk Try.func38 rfl rfl
theorem isf40 : IsF Try.prog 40 := IsF.mk Try.func40 rfl rfl
theorem isf41 : IsF Try.prog 41 := IsF.mk Try.func41 rfl rfl
theorem isf42 : IsF Try.prog 42 := IsF.mk Try.func42 rfl rfl
theorem isf43 : IsF Try.prog 43 := IsF.mk Try.func43 rfl rfl
theorem isf44 : IsF Try.prog 44 := IsF.mk Try.func44 rfl rfl
theorem isf45 : IsF Try.prog 45 := IsF.mk Try.func45 rfl rfl
theorem isf46 : IsF Try.prog 46 := IsF.mk Try.func46 rfl rfl
theorem isf47 : IsF Try.prog 47 := IsF.mk Try.func47 rfl rfl
theorem isf48 : IsF Try.prog 48 := IsF.mk Try.func48 rfl rfl
theorem isf49 : IsF Try.prog 49 := IsF.mk Try.func49 rfl rfl
theorem isf50 : IsF Try.prog 50 := IsF.mk Try.func50 rfl rfl
theorem isf51 : IsF Try.prog 51 := IsF.mk Try.func51 rfl rfl
theorem isf52 : IsF Try.prog 52 := IsF.mk Try.func52 rfl rfl
theorem isf53 : IsF Try.prog 53 := IsF.mk Try.func53 rfl rfl
theorem isf54 : IsF Try.prog 54 := IsF.mk Try.func54 rfl rfl
theorem isf55 : IsF Try.prog 55 := IsF.mk Try.func55 rfl rfl
theorem isf56 : IsF Try.prog 56 := IsF.mk Try.func56 rfl rfl
theorem isf57 : IsF Try.prog 57 := IsF.mk Try.func57 rfl rfl
theorem isf60 : IsF Try.prog 60 := IsF.mk Try.func60 rfl rfl
theorem isf61 : IsF Try.prog 61 := IsF.mk Try.func61 rfl rfl
theorem isf62 : IsF Try.prog 62 := IsF.mk Try.func62 rfl rfl
theorem isf73 : IsF Try.prog 73 := IsF.mk Try.func73 rfl rfl
theorem isf74 : IsF Try.prog 74 := IsF.mk Try.func74 rfl rfl
theorem isf80 : IsF Try.prog 80 := IsF.mk Try.func80 rfl rfl
theorem isf82 : IsF Try.prog 82 := IsF.mk Try.func82 rfl rfl
theorem isf9 : IsF Try.prog 9 := IsF.mk Try.func9 rfl rfl
theorem fa32_0 {E : List (Nat × Value)} {w : World} {x : Operand} {g o : Nat} (hx : lv E x = some (.pointer (some ⟨g, o, none⟩))) : Run Try.prog E w (.fieldAddr 32 x 0) (.pointer (some ⟨g, o + 0, none⟩)) := fa (sz := 0) hx Try.underlying32 rfl rfl (by kernel_rfl)
theorem fa32_1 {E : List (Nat × Value)} {w : World} {x : Operand} {g o : Nat} (hx : lv E x = some (.pointer (some ⟨g, o, none⟩))) : Run Try.prog E w (.fieldAddr 32 x 1) (.pointer (some ⟨g, o + 1, none⟩)) := fa (sz := 0) hx Try.underlying32 rfl rfl (by kernel_rfl)
theorem fa32_2 {E : List (Nat × Value)} {w : World} {x : Operand} {g o : Nat} (hx : lv E x = some (.pointer (some ⟨g, o, none⟩))) : Run Try.prog E w (.fieldAddr 32 x 2) (.pointer (some ⟨g, o + 2, none⟩)) := fa (sz := 0) hx Try.underlying32 rfl rfl (by kernel_rfl)
theorem fa32_3 {E : List (Nat × Value)} {w : World} {x : Operand} {g o : Nat} (hx : lv E x = some (.pointer (some ⟨g, o, none⟩))) : Run Try.prog E w (.fieldAddr 32 x 3) (.pointer (some ⟨g, o + 3, none⟩)) := fa (sz := 0) hx Try.underlying32 rfl rfl (by kernel_rfl)
theorem fa32_4 {E : List (Nat × Value)} {w : World} {x : Operand} {g o : Nat} (hx : lv E x = some (.pointer (some ⟨g, o, none⟩))) : Run Try.prog E w (.fieldAddr 32 x 4) (.pointer (some ⟨g, o + 4, none⟩)) := fa (sz := 0) hx Try.underlying32 rfl rfl (by kernel_rfl)
theorem fa35_0 {E : List (Nat × Value)} {w : World} {x : Operand} {g o : Nat} (hx : lv E x = some (.pointer (some ⟨g, o, none⟩))) : Run Try.prog E w (.fieldAddr 35 x 0) (.pointer (some ⟨g, o + 0, none⟩)) := fa (sz := 0) hx Try.underlying35 rfl rfl (by kernel_rfl)
theorem fa35_1 {E : List (Nat × Value)} {w : World} {x : Operand} {g o : Nat} (hx : lv E x = some (.pointer (some ⟨g, o, none⟩))) : Run Try.prog E w (.fieldAddr 35 x 1) (.pointer (some ⟨g, o + 1, none⟩)) := fa (sz := 0) hx Try.underlying35 rfl rfl (by kernel_rfl)
theorem fa37_1 {E : List (Nat × Value)} {w : World} {x : Operand} {g o : Nat} (hx : lv E x = some (.pointer (some ⟨g, o, none⟩))) : Run Try.prog E w (.fieldAddr 37 x 1) (.pointer (some ⟨g, o + 2, none⟩)) := fa (sz := 1) hx Try.underlying37 rfl rfl (by kernel_rfl)
theorem fa41_0 {E : List (Nat × Value)} {w : World} {x : Operand} {g o : Nat} (hx : lv E x = some (.pointer (some ⟨g, o, none⟩))) : Run Try.prog E w (.fieldAddr 41 x 0) (.pointer (some ⟨g, o + 0, none⟩)) := fa (sz := 0) hx Try.underlying41 rfl rfl (by kernel_rfl)
theorem fa41_1 {E : List (Nat × Value)} {w : World} {x : Operand} {g o : Nat} (hx : lv E x = some (.pointer (some ⟨g, o, none⟩))) : Run Try.prog E w (.fieldAddr 41 x 1) (.pointer (some ⟨g, o + 1, none⟩)) := fa (sz := 0) hx Try.underlying41 rfl rfl (by kernel_rfl)
theorem fa41_2 {E : List (Nat × Value)} {w : World} {x : Operand} {g o : Nat} (hx : lv E x = some (.pointer (some ⟨g, o, none⟩))) : Run Try.prog E w (.fieldAddr 41 x 2) (.pointer (some ⟨g, o + 2, none⟩)) := fa (sz := 0) hx Try.underlying41 rfl rfl (by kernel_rfl)
theorem fa41_3 {E : List (Nat × Value)} {w : World} {x : Operand} {g o : Nat} (hx : lv E x = some (.pointer (some ⟨g, o, none⟩))) : Run Try.prog E w (.fieldAddr 41 x 3) (.pointer (some ⟨g, o + 3, none⟩)) := fa (sz := 0) hx Try.underlying41 rfl rfl (by kernel_rfl)
theorem fa41_4 {E : List (Nat × Value)} {w : World} {x : Operand} {g o : Nat} (hx : lv E x = some (.pointer (some ⟨g, o, none⟩))) : Run Try.prog E w (.fieldAddr 41 x 4) (.pointer (some ⟨g, o + 4, none⟩)) := fa (sz := 0) hx Try.underlying41 rfl rfl (by kernel_rfl)
theorem fa44_0 {E : List (Nat × Value)} {w : World} {x : Operand} {g o : Nat} (hx : lv E x = some (.pointer (some ⟨g, o, none⟩))) : Run Try.prog E w (.fieldAddr 44 x 0) (.pointer (some ⟨g, o + 0, none⟩)) := fa (sz := 6) hx Try.underlying44 rfl rfl (by kernel_rfl)
theorem fa44_1 {E : List (Nat × Value)} {w : World} {x : Operand} {g o : Nat} (hx : lv E x = some (.pointer (some ⟨g, o, none⟩))) : Run Try.prog E w (.fieldAddr 44 x 1) (.pointer (some ⟨g, o + 7, none⟩)) := fa (sz := 0) hx Try.underlying44 rfl rfl (by kernel_rfl)
theorem fa44_2 {E : List (Nat × Value)} {w : World} {x : Operand} {g o : Nat} (hx : lv E x = some (.pointer (some ⟨g, o, none⟩))) : Run Try.prog E w (.fieldAddr 44 x 2) (.pointer (some ⟨g, o + 8, none⟩)) := fa (sz := 0) hx Try.underlying44 rfl rfl (by kernel_rfl)
theorem fa44_3 {E : List (Nat × Value)} {w : World} {x : Operand} {g o : Nat} (hx : lv E x = some (.pointer (some ⟨g, o, none⟩))) : Run Try.prog E w (.fieldAddr 44 x 3) (.pointer (some ⟨g, o + 9, none⟩)) := fa (sz := 0) hx Try.underlying44 rfl rfl (by kernel_rfl)
theorem fa44_4 {E : List (Nat × Value)} {w : World} {x : Operand} {g o : Nat} (hx : lv E x = some (.pointer (some ⟨g, o, none⟩))) : Run Try.prog E w (.fieldAddr 44 x 4) (.pointer (some ⟨g, o + 10, none⟩)) := fa (sz := 0) hx Try.underlying44 rfl rfl (by kernel_rfl)
theorem fa44_5 {E : List (Nat × Value)} {w : World} {x : Operand} {g o : Nat} (hx : lv E x = some (.pointer (some ⟨g, o, none⟩))) : Run Try.prog E w (.fieldAddr 44 x 5) (.pointer (some ⟨g, o + 11, none⟩)) := fa (sz := 0) hx Try.underlying44 rfl rfl (by kernel_rfl)
theorem fa56_0 {E : List (Nat × Value)} {w : World} {x : Operand} {g o : Nat} (hx : lv E x = some (.pointer (some ⟨g, o, none⟩))) : Run Try.prog E w (.fieldAddr 56 x 0) (.pointer (some ⟨g, o + 0, none⟩)) := fa (sz := 0) hx Try.underlying56 rfl rfl (by kernel_rfl)
theorem fa56_1 {E : List (Nat × Value)} {w : World} {x : Operand} {g o : Nat} (hx : lv E x = some (.pointer (some ⟨g, o, none⟩))) : Run Try.prog E w (.fieldAddr 56 x 1) (.pointer (some ⟨g, o + 1, none⟩)) := fa (sz := 0) hx Try.underlying56 rfl rfl (by kernel_rfl)
theorem fa56_2 {E : List (Nat × Value)} {w : World} {x : Operand} {g o : Nat} (hx : lv E x = some (.pointer (some ⟨g, o, none⟩))) : Run Try.prog E w (.fieldAddr 56 x 2) (.pointer (some ⟨g, o + 2, none⟩)) := fa (sz := 0) hx Try.underlying56 rfl rfl (by kernel_rfl)
theorem fa56_3 {E : List (Nat × Value)} {w : World} {x : Operand} {g o : Nat} (hx : lv E x = some (.pointer (some ⟨g, o, none⟩))) : Run Try.prog E w (.fieldAddr 56 x 3) (.pointer (some ⟨g, o + 3, none⟩)) := fa (sz := 0) hx Try.underlying56 rfl rfl (by kernel_rfl)
theorem fa61_0 {E : List (Nat × Value)} {w : World} {x : Operand} {g o : Nat} (hx : lv E x = some (.pointer (some ⟨g, o, none⟩))) : Run Try.prog E w (.fieldAddr 61 x 0) (.pointer (some ⟨g, o + 0, none⟩)) := fa (sz := 0) hx Try.underlying61 rfl rfl (by kernel_rfl)
theorem fa61_1 {E : List (Nat × Value)} {w : World} {x : Operand} {g o : Nat} (hx : lv E x = some (.pointer (some ⟨g, o, none⟩))) : Run Try.prog E w (.fieldAddr 61 x 1) (.pointer (some ⟨g, o + 1, none⟩)) := fa (sz := 0) hx Try.underlying61 rfl rfl (by kernel_rfl)
theorem fa61_2 {E : List (Nat × Value)} {w : World} {x : Operand} {g o : Nat} (hx : lv E x = some (.pointer (some ⟨g, o, none⟩))) : Run Try.prog E w (.fieldAddr 61 x 2) (.pointer (some ⟨g, o + 2, none⟩)) := fa (sz := 0) hx Try.underlying61 rfl rfl (by kernel_rfl)
theorem fa61_3 {E : List (Nat × Value)} {w : World} {x : Operand} {g o : Nat} (hx : lv E x = some (.pointer (some ⟨g, o, none⟩))) : Run Try.prog E w (.fieldAddr 61 x 3) (.pointer (some ⟨g, o + 3, none⟩)) := fa (sz := 0) hx Try.underlying61 rfl rfl (by kernel_rfl)
theorem mo_ : Try.prog.follows .mixedOrders = true := by kernel_rfl
theorem pl32 : PL Try.prog 32 fs32 [(0, 1), (1, 1), (2, 1), (3, 1), (4, 1)] := ⟨Try.underlying32, by kernel_rfl⟩
theorem pl35 : PL Try.prog 35 fs35 [(0, 1), (1, 1)] := ⟨Try.underlying35, by kernel_rfl⟩
theorem pl37 : PL Try.prog 37 fs37 [(0, 2), (2, 2), (4, 1), (5, 1)] := ⟨Try.underlying37, by kernel_rfl⟩
theorem pl41 : PL Try.prog 41 fs41 [(0, 1), (1, 1), (2, 1), (3, 1), (4, 1), (5, 1), (6, 1)] := ⟨Try.underlying41, by kernel_rfl⟩
theorem pl44 : PL Try.prog 44 fs44 [(0, 7), (7, 1), (8, 1), (9, 1), (10, 1), (11, 1)] := ⟨Try.underlying44, by kernel_rfl⟩
theorem pl56 : PL Try.prog 56 fs56 [(0, 1), (1, 1), (2, 1), (3, 1)] := ⟨Try.underlying56, by kernel_rfl⟩
theorem pl61 : PL Try.prog 61 fs61 [(0, 1), (1, 1), (2, 1), (3, 1)] := ⟨Try.underlying61, by kernel_rfl⟩
theorem pl72 : PL Try.prog 72 fs72 [(0, 1), (1, 1), (2, 1), (3, 1)] := ⟨Try.underlying72, by kernel_rfl⟩
theorem pl74 : PL Try.prog 74 fs74 [(0, 2), (2, 1), (3, 1)] := ⟨Try.underlying74, by kernel_rfl⟩
theorem pl78 : PL Try.prog 78 fs78 [(0, 1), (1, 1), (2, 1)] := ⟨Try.underlying78, by kernel_rfl⟩
theorem sh35 : Try.prog.stoodInHeld 35 = false := by kernel_rfl
theorem sh37 : Try.prog.stoodInHeld 37 = false := by kernel_rfl
theorem sh72 : Try.prog.stoodInHeld 72 = false := by kernel_rfl
theorem sh74 : Try.prog.stoodInHeld 74 = false := by kernel_rfl
theorem sh78 : Try.prog.stoodInHeld 78 = false := by kernel_rfl
theorem ti24 : TI Try.prog 24 (.slice 44) (.slice none 0 0) 1 24 := TI.mk' Try.underlying24 (by kernel_rfl)
theorem ti26 : TI Try.prog 26 (.slice 35) (.slice none 0 0) 1 24 := TI.mk' Try.underlying26 (by kernel_rfl)
theorem ti27 : TI Try.prog 27 (.slice 37) (.slice none 0 0) 1 24 := TI.mk' Try.underlying27 (by kernel_rfl)
theorem ti28 : TI Try.prog 28 (.slice 72) (.slice none 0 0) 1 24 := TI.mk' Try.underlying28 (by kernel_rfl)
theorem ti29 : TI Try.prog 29 (.slice 74) (.slice none 0 0) 1 24 := TI.mk' Try.underlying29 (by kernel_rfl)
theorem ti3 : TI Try.prog 3 (.int .i64) (.int .i64 0) 1 8 := TI.mk' Try.underlying3 (by kernel_rfl)
theorem ti30 : TI Try.prog 30 (.slice 3) (.slice none 0 0) 1 24 := TI.mk' Try.underlying30 (by kernel_rfl)
theorem ti32 : TI Try.prog 32 ds32 (.agg [(.slice none 0 0), (.slice none 0 0), (.slice none 0 0), (.slice none 0 0), (.slice none 0 0)].toArray) 5 120 := TI.mk' Try.underlying32 (by kernel_rfl)
theorem ti35 : TI Try.prog 35 ds35 (.agg [(.int .i64 0), (.int .i64 0)].toArray) 2 16 := TI.mk' Try.underlying35 (by kernel_rfl)
theorem ti37 : TI Try.prog 37 ds37 (.agg [(.int .i64 0), (.int .i64 0), (.int .i64 0), (.int .i64 0), (.int .i64 0), (.int .i64 0)].toArray) 6 48 := TI.mk' Try.underlying37 (by kernel_rfl)
theorem ti41 : TI Try.prog 41 ds41 (.agg [(.int .i64 0), (.int .i64 0), (.int .i64 0), (.int .i64 0), (.int .i64 0), (.int .i64 0), (.int .i64 0)].toArray) 7 56 := TI.mk' Try.underlying41 (by kernel_rfl)
theorem ti44 : TI Try.prog 44 ds44 (.agg [(.int .i64 0), (.int .i64 0), (.int .i64 0), (.int .i64 0), (.int .i64 0), (.int .i64 0), (.int .i64 0), (.int .i64 0), (.slice none 0 0), (.int .i64 0), (.slice none 0 0), (.slice none 0 0)].toArray) 12 144 := TI.mk' Try.underlying44 (by kernel_rfl)
theorem ti56 : TI Try.prog 56 ds56 (.agg [(.int .i64 0), (.int .i64 0), (.int .i64 0), (.int .i64 0)].toArray) 4 32 := TI.mk' Try.underlying56 (by kernel_rfl)
theorem ti59 : TI Try.prog 59 (.map 3 44) (.map none) 1 8 := TI.mk' Try.underlying59 (by kernel_rfl)
theorem ti61 : TI Try.prog 61 ds61 (.agg [(.slice none 0 0), (.slice none 0 0), (.map none), (.map none)].toArray) 4 64 := TI.mk' Try.underlying61 (by kernel_rfl)
theorem ti72 : TI Try.prog 72 ds72 (.agg [(.int .i64 0), (.int .i64 0), (.int .i64 0), (.int .i64 0)].toArray) 4 32 := TI.mk' Try.underlying72 (by kernel_rfl)
theorem ti74 : TI Try.prog 74 ds74 (.agg [(.int .i64 0), (.int .i64 0), (.int .i64 0), (.int .i64 0)].toArray) 4 32 := TI.mk' Try.underlying74 (by kernel_rfl)
theorem ti78 : TI Try.prog 78 ds78 (.agg [(.int .i64 0), (.int .i64 0), (.int .i64 0)].toArray) 3 24 := TI.mk' Try.underlying78 (by kernel_rfl)

/-! ### plenum/plenumlaw5.Great (function 28) -/
abbrev f_plenumlaw5_Great.R := Bool
noncomputable def f_plenumlaw5_Great (a0 : T_api_Lsa) : Option f_plenumlaw5_Great.R := (if 70 < (a0.f_Links.length : Int) then some true else (if 70 < (a0.f_Routers.length : Int) then some true else some (decide (70 < (a0.f_Verts.length : Int)))))
set_option maxHeartbeats 1000000 in
theorem f_plenumlaw5_Great.ok {z w : World} {F G : Hp} (hG : G ⊆ F) {a0 : T_api_Lsa} {A_a0_8 : Option Addr} {c_a0_8 : Nat} {X_a0_8 : Hp} {A_a0_10 : Option Addr} {c_a0_10 : Nat} {X_a0_10 : Hp} {A_a0_11 : Option Addr} {c_a0_11 : Nat} {X_a0_11 : Hp} {r : f_plenumlaw5_Great.R} (H : f_plenumlaw5_Great a0 = some r) (HF : Fits z w F) (hX_a0_8 : X_a0_8 ⊆ F) (hr_a0_8 : RdS k_T_api_Link X_a0_8 A_a0_8 c_a0_8 a0.f_Links) (hX_a0_10 : X_a0_10 ⊆ F) (hr_a0_10 : RdS (kInt .i64) X_a0_10 A_a0_10 c_a0_10 a0.f_Routers) (hX_a0_11 : X_a0_11 ⊆ F) (hr_a0_11 : RdS k_T_api_Vert X_a0_11 A_a0_11 c_a0_11 a0.f_Verts) :
  Calls Try.prog 28 [.agg [.int .i64 a0.f_Head.f_Age, .int .i64 a0.f_Head.f_Kind, .int .i64 a0.f_Head.f_Id, .int .i64 a0.f_Head.f_Adv, .int .i64 a0.f_Head.f_Seq, .int .i64 a0.f_Head.f_Sum, .int .i64 a0.f_Head.f_Len, .int .i64 a0.f_Flags, .slice A_a0_8 a0.f_Links.length c_a0_8, .int .i64 a0.f_Bits, .slice A_a0_10 a0.f_Routers.length c_a0_10, .slice A_a0_11 a0.f_Verts.length c_a0_11].toArray].toArray w fun e w' => e = .returned (.bool r) ∧ Fits z w' F := by
 unfold f_plenumlaw5_Great at H
 refine enter0 Try.func28 rfl Try.ntmps28 rfl (E := [(0, .agg [.int .i64 a0.f_Head.f_Age, .int .i64 a0.f_Head.f_Kind, .int .i64 a0.f_Head.f_Id, .int .i64 a0.f_Head.f_Adv, .int .i64 a0.f_Head.f_Seq, .int .i64 a0.f_Head.f_Sum, .int .i64 a0.f_Head.f_Len, .int .i64 a0.f_Flags, .slice A_a0_8 a0.f_Links.length c_a0_8, .int .i64 a0.f_Bits, .slice A_a0_10 a0.f_Routers.length c_a0_10, .slice A_a0_11 a0.f_Verts.length c_a0_11].toArray)]) rfl ?_
 refine cSeq (fun K1 hK1 => ?_)
 refine cRgn [] trivial ?_
 refine eW (oBox HF rfl) rfl ?_
 rintro _ w1 ⟨g1, rfl, HF1⟩
 refine sL (asg rfl) rfl ?_
 refine lE ?_
 refine kN (?_)
 refine hK1 _ _ ?_
 refine cSeq (fun K2 hK2 => ?_)
 refine cRgn [(4, 7), (10, 13)] ⟨rfl, rfl, trivial⟩ ?_
 refine sL (fa44_2 rfl) rfl ?_
 refine sL (ld rfl Try.underlying42 rfl (HF1.box (mem_h) rfl)) rfl ?_
 refine sL (lnS rfl Try.underlying42) rfl ?_
 refine sL (bGtr rfl rfl) rfl ?_
 refine sL (mv rfl) rfl ?_
 by_cases c1 : 70 < (a0.f_Links.length : Int)
 ·replace H := itT c1 H
  refine lSet (i := 7) rfl (dT c1) ?_
  refine sN rfl rfl rfl rfl ?_
  refine sN rfl rfl rfl rfl ?_
  refine sN rfl rfl rfl rfl ?_
  refine sN rfl rfl rfl rfl ?_
  refine sL (pkT rfl rfl) rfl ?_
  refine sL (mv rfl) rfl ?_
  refine sN rfl rfl rfl rfl ?_
  refine sN rfl rfl rfl rfl ?_
  refine sN rfl rfl rfl rfl ?_
  refine sN rfl rfl rfl rfl ?_
  refine sL (pkT rfl rfl) rfl ?_
  refine sL (asg rfl) rfl ?_
  refine lE ?_
  refine kN (?_)
  refine hK2 _ _ ?_
  refine cRet ?_
  obtain rfl := Option.some.inj H
  refine ret1 rfl rfl ?_
  have HF2 := HF1.sublist (sl_dc sR)
  exact ⟨rfl, HF2⟩
 replace H := itF c1 H
 refine lSet (i := 7) rfl (dF c1) ?_
 refine sG rfl rfl (fa44_4 rfl) rfl ?_
 refine sG rfl rfl (ld rfl Try.underlying30 rfl (HF1.box (mem_h) rfl)) rfl ?_
 refine sG rfl rfl (lnS rfl Try.underlying30) rfl ?_
 refine sG rfl rfl (bGtr rfl rfl) rfl ?_
 refine sL (pkF rfl rfl) rfl ?_
 refine sL (mv rfl) rfl ?_
 by_cases c2 : 70 < (a0.f_Routers.length : Int)
 ·replace H := itT c2 H
  refine lSet (i := 13) rfl (dT c2) ?_
  refine sN rfl rfl rfl rfl ?_
  refine sN rfl rfl rfl rfl ?_
  refine sN rfl rfl rfl rfl ?_
  refine sN rfl rfl rfl rfl ?_
  refine sL (pkT rfl rfl) rfl ?_
  refine sL (asg rfl) rfl ?_
  refine lE ?_
  refine kN (?_)
  refine hK2 _ _ ?_
  refine cRet ?_
  obtain rfl := Option.some.inj H
  refine ret1 rfl rfl ?_
  have HF3 := HF1.sublist (sl_dc sR)
  exact ⟨rfl, HF3⟩
 replace H := itF c2 H
 refine lSet (i := 13) rfl (dF c2) ?_
 refine sG rfl rfl (fa44_5 rfl) rfl ?_
 refine sG rfl rfl (ld rfl Try.underlying26 rfl (HF1.box (mem_h) rfl)) rfl ?_
 refine sG rfl rfl (lnS rfl Try.underlying26) rfl ?_
 refine sG rfl rfl (bGtr rfl rfl) rfl ?_
 refine sL (pkF rfl rfl) rfl ?_
 refine sL (asg rfl) rfl ?_
 refine lE ?_
 refine kN (?_)
 refine hK2 _ _ ?_
 refine cRet ?_
 obtain rfl := Option.some.inj H
 refine ret1 rfl rfl ?_
 have HF4 := HF1.sublist (sl_dc sR)
 exact ⟨rfl, HF4⟩
/-! ### plenum/plenumref1.Kind (function 62) -/
abbrev f_plenumref1_Kind.R := Bool
noncomputable def f_plenumref1_Kind (a0 : Int) : Option f_plenumref1_Kind.R := (if a0 = 1 then some true else (if a0 = 2 then some true else some (decide (a0 = 6))))
set_option maxHeartbeats 1000000 in
theorem f_plenumref1_Kind.ok {z w : World} {F : Hp} {a0 : Int} {r : f_plenumref1_Kind.R} (H : f_plenumref1_Kind a0 = some r) (HF : Fits z w F) :
  Calls Try.prog 62 [.int .i64 a0].toArray w fun e w' => e = .returned (.bool r) ∧ Fits z w' F := by
 unfold f_plenumref1_Kind at H
 refine enter0 Try.func62 rfl Try.ntmps62 rfl (E := [(0, .int .i64 a0)]) rfl ?_
 refine cSeq (fun K1 hK1 => ?_)
 refine cRgn [] trivial ?_
 refine sL (asg rfl) rfl ?_
 refine lE ?_
 refine kN (?_)
 refine hK1 _ _ ?_
 refine cSeq (fun K2 hK2 => ?_)
 refine cRgn [(2, 5), (6, 9)] ⟨rfl, rfl, trivial⟩ ?_
 refine sL (mv rfl) rfl ?_
 refine sL (bEql rfl rfl) rfl ?_
 refine sL (mv rfl) rfl ?_
 by_cases c1 : a0 = 1
 ·replace H := itT c1 H
  refine lSet (i := 5) rfl (dT c1) ?_
  refine sN rfl rfl rfl rfl ?_
  refine sN rfl rfl rfl rfl ?_
  refine sL (pkT rfl rfl) rfl ?_
  refine sL (mv rfl) rfl ?_
  refine sN rfl rfl rfl rfl ?_
  refine sN rfl rfl rfl rfl ?_
  refine sL (pkT rfl rfl) rfl ?_
  refine sL (asg rfl) rfl ?_
  refine lE ?_
  refine kN (?_)
  refine hK2 _ _ ?_
  refine cRet ?_
  obtain rfl := Option.some.inj H
  refine ret1 rfl rfl ?_
  exact ⟨rfl, HF⟩
 replace H := itF c1 H
 refine lSet (i := 5) rfl (dF c1) ?_
 refine sG rfl rfl (mv rfl) rfl ?_
 refine sG rfl rfl (bEql rfl rfl) rfl ?_
 refine sL (pkF rfl rfl) rfl ?_
 refine sL (mv rfl) rfl ?_
 by_cases c2 : a0 = 2
 ·replace H := itT c2 H
  refine lSet (i := 9) rfl (dT c2) ?_
  refine sN rfl rfl rfl rfl ?_
  refine sN rfl rfl rfl rfl ?_
  refine sL (pkT rfl rfl) rfl ?_
  refine sL (asg rfl) rfl ?_
  refine lE ?_
  refine kN (?_)
  refine hK2 _ _ ?_
  refine cRet ?_
  obtain rfl := Option.some.inj H
  refine ret1 rfl rfl ?_
  exact ⟨rfl, HF⟩
 replace H := itF c2 H
 refine lSet (i := 9) rfl (dF c2) ?_
 refine sG rfl rfl (mv rfl) rfl ?_
 refine sG rfl rfl (bEql rfl rfl) rfl ?_
 refine sL (pkF rfl rfl) rfl ?_
 refine sL (asg rfl) rfl ?_
 refine lE ?_
 refine kN (?_)
 refine hK2 _ _ ?_
 refine cRet ?_
 obtain rfl := Option.some.inj H
 refine ret1 rfl rfl ?_
 exact ⟨rfl, HF⟩
/-! ### plenum/plenumref1.Right (function 55) -/
abbrev f_plenumref1_Right.R := Bool
noncomputable def f_plenumref1_Right (a0 : Int) : Option f_plenumref1_Right.R := (if 0 ≤ a0 then some (decide (a0 ≤ 4294967295)) else some false)
set_option maxHeartbeats 1000000 in
theorem f_plenumref1_Right.ok {z w : World} {F : Hp} {a0 : Int} {r : f_plenumref1_Right.R} (H : f_plenumref1_Right a0 = some r) (HF : Fits z w F) :
  Calls Try.prog 55 [.int .i64 a0].toArray w fun e w' => e = .returned (.bool r) ∧ Fits z w' F := by
 unfold f_plenumref1_Right at H
 refine enter0 Try.func55 rfl Try.ntmps55 rfl (E := [(0, .int .i64 a0)]) rfl ?_
 refine cSeq (fun K1 hK1 => ?_)
 refine cRgn [] trivial ?_
 refine sL (asg rfl) rfl ?_
 refine lE ?_
 refine kN (?_)
 refine hK1 _ _ ?_
 refine cSeq (fun K2 hK2 => ?_)
 refine cRgn [(2, 5)] ⟨rfl, trivial⟩ ?_
 refine sL (mv rfl) rfl ?_
 refine sL (bGeq rfl rfl) rfl ?_
 refine sL (mv rfl) rfl ?_
 by_cases c1 : 0 ≤ a0
 ·replace H := itT c1 H
  refine lSet (i := 5) rfl (dT c1) ?_
  refine sG rfl rfl (mv rfl) rfl ?_
  refine sG rfl rfl (bLeq rfl rfl) rfl ?_
  refine sL (pkT rfl rfl) rfl ?_
  refine sL (asg rfl) rfl ?_
  refine lE ?_
  refine kN (?_)
  refine hK2 _ _ ?_
  refine cRet ?_
  obtain rfl := Option.some.inj H
  refine ret1 rfl rfl ?_
  exact ⟨rfl, HF⟩
 replace H := itF c1 H
 refine lSet (i := 5) rfl (dF c1) ?_
 refine sN rfl rfl rfl rfl ?_
 refine sN rfl rfl rfl rfl ?_
 refine sL (pkF rfl rfl) rfl ?_
 refine sL (asg rfl) rfl ?_
 refine lE ?_
 refine kN (?_)
 refine hK2 _ _ ?_
 refine cRet ?_
 obtain rfl := Option.some.inj H
 refine ret1 rfl rfl ?_
 exact ⟨rfl, HF⟩
/-! ### plenum/plenumref1.headRight (function 54) -/
abbrev f_plenumref1_headRight.R := Bool
noncomputable def f_plenumref1_headRight (a0 : T_api_Head) : Option f_plenumref1_headRight.R := ((f_plenumref1_Kind a0.f_Kind).bind fun t1 => (if t1 = true then (if 0 ≤ a0.f_Age then (if a0.f_Age ≤ 3600 then ((f_plenumref1_Right a0.f_Id).bind fun t2 => (if t2 = true then ((f_plenumref1_Right a0.f_Adv).bind fun t3 => (if t3 = true then (if a0.f_Adv = 0 then some false else (if (-2147483647) ≤ a0.f_Seq then some (decide (a0.f_Seq ≤ 2147483647)) else some false)) else some false)) else some false)) else some false) else some false) else some false))
set_option maxHeartbeats 1000000 in
theorem f_plenumref1_headRight.ok {z w : World} {F : Hp} {a0 : T_api_Head} {r : f_plenumref1_headRight.R} (H : f_plenumref1_headRight a0 = some r) (HF : Fits z w F) :
  Calls Try.prog 54 [.agg [.int .i64 a0.f_Age, .int .i64 a0.f_Kind, .int .i64 a0.f_Id, .int .i64 a0.f_Adv, .int .i64 a0.f_Seq, .int .i64 a0.f_Sum, .int .i64 a0.f_Len].toArray].toArray w fun e w' => e = .returned (.bool r) ∧ Fits z w' F := by
 unfold f_plenumref1_headRight at H
 refine enter0 Try.func54 rfl Try.ntmps54 rfl (E := [(0, .agg [.int .i64 a0.f_Age, .int .i64 a0.f_Kind, .int .i64 a0.f_Id, .int .i64 a0.f_Adv, .int .i64 a0.f_Seq, .int .i64 a0.f_Sum, .int .i64 a0.f_Len].toArray)]) rfl ?_
 refine cSeq (fun K1 hK1 => ?_)
 refine cRgn [] trivial ?_
 refine eW (oBox HF rfl) rfl ?_
 rintro _ w1 ⟨g1, rfl, HF1⟩
 refine sL (asg rfl) rfl ?_
 refine lE ?_
 refine kN (?_)
 refine hK1 _ _ ?_
 refine cSeq (fun K2 hK2 => ?_)
 refine cRgn [(3, 6), (8, 11), (13, 16), (18, 21), (23, 26), (28, 31), (33, 36)] ⟨rfl, rfl, rfl, rfl, rfl, rfl, rfl, trivial⟩ ?_
 refine sL (fa41_1 rfl) rfl ?_
 refine sL (ld rfl Try.underlying3 rfl (HF1.box (mem_h) rfl)) rfl ?_
 replace H := bnd H; obtain ⟨t1, J1, H⟩ := H
 refine eCall isf62 rfl rfl rfl (f_plenumref1_Kind.ok J1 HF1) ?_
 rintro _ w2 ⟨rfl, HF2⟩
 refine ⟨_, rfl, ?_⟩
 refine sL (mv rfl) rfl ?_
 by_cases c1 : t1 = true
 ·replace H := itT c1 H
  refine lSet (i := 6) rfl (vT c1) ?_
  refine sG rfl rfl (fa41_0 rfl) rfl ?_
  refine sG rfl rfl (ld rfl Try.underlying3 rfl (HF2.box (mem_h) rfl)) rfl ?_
  refine sG rfl rfl (bGeq rfl rfl) rfl ?_
  refine sL (pkT rfl rfl) rfl ?_
  refine sL (mv rfl) rfl ?_
  by_cases c2 : 0 ≤ a0.f_Age
  ·replace H := itT c2 H
   refine lSet (i := 11) rfl (dT c2) ?_
   refine sG rfl rfl (fa41_0 rfl) rfl ?_
   refine sG rfl rfl (ld rfl Try.underlying3 rfl (HF2.box (mem_h) rfl)) rfl ?_
   refine sG rfl rfl (bLeq rfl rfl) rfl ?_
   refine sL (pkT rfl rfl) rfl ?_
   refine sL (mv rfl) rfl ?_
   by_cases c3 : a0.f_Age ≤ 3600
   ·replace H := itT c3 H
    refine lSet (i := 16) rfl (dT c3) ?_
    refine sG rfl rfl (fa41_2 rfl) rfl ?_
    refine sG rfl rfl (ld rfl Try.underlying3 rfl (HF2.box (mem_h) rfl)) rfl ?_
    replace H := bnd H; obtain ⟨t2, J2, H⟩ := H
    refine eCallG rfl rfl isf55 rfl rfl rfl (f_plenumref1_Right.ok J2 HF2) ?_
    rintro _ w3 ⟨rfl, HF3⟩
    refine ⟨_, rfl, ?_⟩
    refine sL (pkT rfl rfl) rfl ?_
    refine sL (mv rfl) rfl ?_
    by_cases c4 : t2 = true
    ·replace H := itT c4 H
     refine lSet (i := 21) rfl (vT c4) ?_
     refine sG rfl rfl (fa41_3 rfl) rfl ?_
     refine sG rfl rfl (ld rfl Try.underlying3 rfl (HF3.box (mem_h) rfl)) rfl ?_
     replace H := bnd H; obtain ⟨t3, J3, H⟩ := H
     refine eCallG rfl rfl isf55 rfl rfl rfl (f_plenumref1_Right.ok J3 HF3) ?_
     rintro _ w4 ⟨rfl, HF4⟩
     refine ⟨_, rfl, ?_⟩
     refine sL (pkT rfl rfl) rfl ?_
     refine sL (mv rfl) rfl ?_
     by_cases c5 : t3 = true
     ·replace H := itT c5 H
      refine lSet (i := 26) rfl (vT c5) ?_
      refine sG rfl rfl (fa41_3 rfl) rfl ?_
      refine sG rfl rfl (ld rfl Try.underlying3 rfl (HF4.box (mem_h) rfl)) rfl ?_
      refine sG rfl rfl (bNeq rfl rfl) rfl ?_
      refine sL (pkT rfl rfl) rfl ?_
      refine sL (mv rfl) rfl ?_
      by_cases c6 : a0.f_Adv = 0
      ·replace H := itT c6 H
       refine lSet (i := 31) rfl (nF c6) ?_
       refine sN rfl rfl rfl rfl ?_
       refine sN rfl rfl rfl rfl ?_
       refine sN rfl rfl rfl rfl ?_
       refine sL (pkF rfl rfl) rfl ?_
       refine sL (mv rfl) rfl ?_
       refine sN rfl rfl rfl rfl ?_
       refine sN rfl rfl rfl rfl ?_
       refine sN rfl rfl rfl rfl ?_
       refine sL (pkF rfl rfl) rfl ?_
       refine sL (asg rfl) rfl ?_
       refine lE ?_
       refine kN (?_)
       refine hK2 _ _ ?_
       refine cRet ?_
       obtain rfl := Option.some.inj H
       refine ret1 rfl rfl ?_
       have HF5 := HF4.sublist (sl_dc sR)
       exact ⟨rfl, HF5⟩
      replace H := itF c6 H
      refine lSet (i := 31) rfl (nT c6) ?_
      refine sG rfl rfl (fa41_4 rfl) rfl ?_
      refine sG rfl rfl (ld rfl Try.underlying3 rfl (HF4.box (mem_h) rfl)) rfl ?_
      refine sG rfl rfl (bGeq rfl rfl) rfl ?_
      refine sL (pkT rfl rfl) rfl ?_
      refine sL (mv rfl) rfl ?_
      by_cases c7 : (-2147483647) ≤ a0.f_Seq
      ·replace H := itT c7 H
       refine lSet (i := 36) rfl (dT c7) ?_
       refine sG rfl rfl (fa41_4 rfl) rfl ?_
       refine sG rfl rfl (ld rfl Try.underlying3 rfl (HF4.box (mem_h) rfl)) rfl ?_
       refine sG rfl rfl (bLeq rfl rfl) rfl ?_
       refine sL (pkT rfl rfl) rfl ?_
       refine sL (asg rfl) rfl ?_
       refine lE ?_
       refine kN (?_)
       refine hK2 _ _ ?_
       refine cRet ?_
       obtain rfl := Option.some.inj H
       refine ret1 rfl rfl ?_
       have HF6 := HF4.sublist (sl_dc sR)
       exact ⟨rfl, HF6⟩
      replace H := itF c7 H
      refine lSet (i := 36) rfl (dF c7) ?_
      refine sN rfl rfl rfl rfl ?_
      refine sN rfl rfl rfl rfl ?_
      refine sN rfl rfl rfl rfl ?_
      refine sL (pkF rfl rfl) rfl ?_
      refine sL (asg rfl) rfl ?_
      refine lE ?_
      refine kN (?_)
      refine hK2 _ _ ?_
      refine cRet ?_
      obtain rfl := Option.some.inj H
      refine ret1 rfl rfl ?_
      have HF7 := HF4.sublist (sl_dc sR)
      exact ⟨rfl, HF7⟩
     replace H := itF c5 H
     refine lSet (i := 26) rfl (vF c5) ?_
     refine sN rfl rfl rfl rfl ?_
     refine sN rfl rfl rfl rfl ?_
     refine sN rfl rfl rfl rfl ?_
     refine sL (pkF rfl rfl) rfl ?_
     refine sL (mv rfl) rfl ?_
     refine sN rfl rfl rfl rfl ?_
     refine sN rfl rfl rfl rfl ?_
     refine sN rfl rfl rfl rfl ?_
     refine sL (pkF rfl rfl) rfl ?_
     refine sL (mv rfl) rfl ?_
     refine sN rfl rfl rfl rfl ?_
     refine sN rfl rfl rfl rfl ?_
     refine sN rfl rfl rfl rfl ?_
     refine sL (pkF rfl rfl) rfl ?_
     refine sL (asg rfl) rfl ?_
     refine lE ?_
     refine kN (?_)
     refine hK2 _ _ ?_
     refine cRet ?_
     obtain rfl := Option.some.inj H
     refine ret1 rfl rfl ?_
     have HF8 := HF4.sublist (sl_dc sR)
     exact ⟨rfl, HF8⟩
    replace H := itF c4 H
    refine lSet (i := 21) rfl (vF c4) ?_
    refine sN rfl rfl rfl rfl ?_
    refine sN rfl rfl rfl rfl ?_
    refine sN rfl rfl rfl rfl ?_
    refine sL (pkF rfl rfl) rfl ?_
    refine sL (mv rfl) rfl ?_
    refine sN rfl rfl rfl rfl ?_
    refine sN rfl rfl rfl rfl ?_
    refine sN rfl rfl rfl rfl ?_
    refine sL (pkF rfl rfl) rfl ?_
    refine sL (mv rfl) rfl ?_
    refine sN rfl rfl rfl rfl ?_
    refine sN rfl rfl rfl rfl ?_
    refine sN rfl rfl rfl rfl ?_
    refine sL (pkF rfl rfl) rfl ?_
    refine sL (mv rfl) rfl ?_
    refine sN rfl rfl rfl rfl ?_
    refine sN rfl rfl rfl rfl ?_
    refine sN rfl rfl rfl rfl ?_
    refine sL (pkF rfl rfl) rfl ?_
    refine sL (asg rfl) rfl ?_
    refine lE ?_
    refine kN (?_)
    refine hK2 _ _ ?_
    refine cRet ?_
    obtain rfl := Option.some.inj H
    refine ret1 rfl rfl ?_
    have HF9 := HF3.sublist (sl_dc sR)
    exact ⟨rfl, HF9⟩
   replace H := itF c3 H
   refine lSet (i := 16) rfl (dF c3) ?_
   refine sN rfl rfl rfl rfl ?_
   refine sN rfl rfl rfl rfl ?_
   refine sN rfl rfl rfl rfl ?_
   refine sL (pkF rfl rfl) rfl ?_
   refine sL (mv rfl) rfl ?_
   refine sN rfl rfl rfl rfl ?_
   refine sN rfl rfl rfl rfl ?_
   refine sN rfl rfl rfl rfl ?_
   refine sL (pkF rfl rfl) rfl ?_
   refine sL (mv rfl) rfl ?_
   refine sN rfl rfl rfl rfl ?_
   refine sN rfl rfl rfl rfl ?_
   refine sN rfl rfl rfl rfl ?_
   refine sL (pkF rfl rfl) rfl ?_
   refine sL (mv rfl) rfl ?_
   refine sN rfl rfl rfl rfl ?_
   refine sN rfl rfl rfl rfl ?_
   refine sN rfl rfl rfl rfl ?_
   refine sL (pkF rfl rfl) rfl ?_
   refine sL (mv rfl) rfl ?_
   refine sN rfl rfl rfl rfl ?_
   refine sN rfl rfl rfl rfl ?_
   refine sN rfl rfl rfl rfl ?_
   refine sL (pkF rfl rfl) rfl ?_
   refine sL (asg rfl) rfl ?_
   refine lE ?_
   refine kN (?_)
   refine hK2 _ _ ?_
   refine cRet ?_
   obtain rfl := Option.some.inj H
   refine ret1 rfl rfl ?_
   have HF10 := HF2.sublist (sl_dc sR)
   exact ⟨rfl, HF10⟩
  replace H := itF c2 H
  refine lSet (i := 11) rfl (dF c2) ?_
  refine sN rfl rfl rfl rfl ?_
  refine sN rfl rfl rfl rfl ?_
  refine sN rfl rfl rfl rfl ?_
  refine sL (pkF rfl rfl) rfl ?_
  refine sL (mv rfl) rfl ?_
  refine sN rfl rfl rfl rfl ?_
  refine sN rfl rfl rfl rfl ?_
  refine sN rfl rfl rfl rfl ?_
  refine sL (pkF rfl rfl) rfl ?_
  refine sL (mv rfl) rfl ?_
  refine sN rfl rfl rfl rfl ?_
  refine sN rfl rfl rfl rfl ?_
  refine sN rfl rfl rfl rfl ?_
  refine sL (pkF rfl rfl) rfl ?_
  refine sL (mv rfl) rfl ?_
  refine sN rfl rfl rfl rfl ?_
  refine sN rfl rfl rfl rfl ?_
  refine sN rfl rfl rfl rfl ?_
  refine sL (pkF rfl rfl) rfl ?_
  refine sL (mv rfl) rfl ?_
  refine sN rfl rfl rfl rfl ?_
  refine sN rfl rfl rfl rfl ?_
  refine sN rfl rfl rfl rfl ?_
  refine sL (pkF rfl rfl) rfl ?_
  refine sL (mv rfl) rfl ?_
  refine sN rfl rfl rfl rfl ?_
  refine sN rfl rfl rfl rfl ?_
  refine sN rfl rfl rfl rfl ?_
  refine sL (pkF rfl rfl) rfl ?_
  refine sL (asg rfl) rfl ?_
  refine lE ?_
  refine kN (?_)
  refine hK2 _ _ ?_
  refine cRet ?_
  obtain rfl := Option.some.inj H
  refine ret1 rfl rfl ?_
  have HF11 := HF2.sublist (sl_dc sR)
  exact ⟨rfl, HF11⟩
 replace H := itF c1 H
 refine lSet (i := 6) rfl (vF c1) ?_
 refine sN rfl rfl rfl rfl ?_
 refine sN rfl rfl rfl rfl ?_
 refine sN rfl rfl rfl rfl ?_
 refine sL (pkF rfl rfl) rfl ?_
 refine sL (mv rfl) rfl ?_
 refine sN rfl rfl rfl rfl ?_
 refine sN rfl rfl rfl rfl ?_
 refine sN rfl rfl rfl rfl ?_
 refine sL (pkF rfl rfl) rfl ?_
 refine sL (mv rfl) rfl ?_
 refine sN rfl rfl rfl rfl ?_
 refine sN rfl rfl rfl rfl ?_
 refine sN rfl rfl rfl rfl ?_
 refine sL (pkF rfl rfl) rfl ?_
 refine sL (mv rfl) rfl ?_
 refine sN rfl rfl rfl rfl ?_
 refine sN rfl rfl rfl rfl ?_
 refine sN rfl rfl rfl rfl ?_
 refine sL (pkF rfl rfl) rfl ?_
 refine sL (mv rfl) rfl ?_
 refine sN rfl rfl rfl rfl ?_
 refine sN rfl rfl rfl rfl ?_
 refine sN rfl rfl rfl rfl ?_
 refine sL (pkF rfl rfl) rfl ?_
 refine sL (mv rfl) rfl ?_
 refine sN rfl rfl rfl rfl ?_
 refine sN rfl rfl rfl rfl ?_
 refine sN rfl rfl rfl rfl ?_
 refine sL (pkF rfl rfl) rfl ?_
 refine sL (mv rfl) rfl ?_
 refine sN rfl rfl rfl rfl ?_
 refine sN rfl rfl rfl rfl ?_
 refine sN rfl rfl rfl rfl ?_
 refine sL (pkF rfl rfl) rfl ?_
 refine sL (asg rfl) rfl ?_
 refine lE ?_
 refine kN (?_)
 refine hK2 _ _ ?_
 refine cRet ?_
 obtain rfl := Option.some.inj H
 refine ret1 rfl rfl ?_
 have HF12 := HF2.sublist (sl_dc sR)
 exact ⟨rfl, HF12⟩
/-! ### plenum/plenumref1.RightLsa (function 29) -/
abbrev f_plenumref1_RightLsa.R := Bool
noncomputable def f_plenumref1_RightLsa.b0 (a0 : T_api_Lsa) (s3 : Int) : Option (Sum (Int) (Sum (Int) f_plenumref1_RightLsa.R)) := (if s3 < (a0.f_Links.length : Int) then (if 0 ≤ s3 then (if ((rd a0.f_Links s3).f_Kind) < 1 then some (.inr (.inr false)) else (if 3 < ((rd a0.f_Links s3).f_Kind) then some (.inr (.inr false)) else ((f_plenumref1_Right ((rd a0.f_Links s3).f_Id)).bind fun t7 => (if t7 = true then ((f_plenumref1_Right ((rd a0.f_Links s3).f_Data)).bind fun t8 => (if t8 = true then (if ((rd a0.f_Links s3).f_Cost) < 0 then some (.inr (.inr false)) else (if 65535 < ((rd a0.f_Links s3).f_Cost) then some (.inr (.inr false)) else some (.inl (IntKind.i64.wrap (s3 + 1))))) else some (.inr (.inr false)))) else some (.inr (.inr false)))))) else none) else some (.inr (.inl s3)))
noncomputable def f_plenumref1_RightLsa.b1 (a0 : T_api_Lsa) (s4 : Int) : Option (Sum (Int) (Sum (Int) f_plenumref1_RightLsa.R)) := (if s4 < (a0.f_Routers.length : Int) then (if 0 ≤ s4 then ((f_plenumref1_Right (rd a0.f_Routers s4)).bind fun t11 => (if t11 = true then some (.inl (IntKind.i64.wrap (s4 + 1))) else some (.inr (.inr false)))) else none) else some (.inr (.inl s4)))
noncomputable def f_plenumref1_RightLsa.b2 (a0 : T_api_Lsa) (s5 : Int) : Option (Sum (Int) (Sum (Int) f_plenumref1_RightLsa.R)) := (if s5 < (a0.f_Verts.length : Int) then (if 0 ≤ s5 then (if ((rd a0.f_Verts s5).f_Kind) < 1 then some (.inr (.inr false)) else (if 2 < ((rd a0.f_Verts s5).f_Kind) then some (.inr (.inr false)) else ((f_plenumref1_Right ((rd a0.f_Verts s5).f_Id)).bind fun t14 => (if t14 = true then some (.inl (IntKind.i64.wrap (s5 + 1))) else some (.inr (.inr false)))))) else none) else some (.inr (.inl s5)))
noncomputable def f_plenumref1_RightLsa (a0 : T_api_Lsa) : Option f_plenumref1_RightLsa.R := (((((f_plenumref1_headRight a0.f_Head).bind fun t2 => (if t2 = true then (if a0.f_Flags < 0 then some (.inl true) else (if 255 < a0.f_Flags then some (.inl true) else (if 64 < (a0.f_Links.length : Int) then some (.inl true) else (if a0.f_Bits < 0 then some (.inl true) else (if 32 < a0.f_Bits then some (.inl true) else (if 64 < (a0.f_Routers.length : Int) then some (.inl true) else some (.inl (decide (64 < (a0.f_Verts.length : Int)))))))))) else some (.inl true))) : Option (Sum (Bool) f_plenumref1_RightLsa.R))).bind fun y1 => match y1 with | .inl s1 => (if s1 = true then some false else ((((if a0.f_Head.f_Kind = 1 then (if a0.f_Head.f_Kind = 2 then (if a0.f_Head.f_Kind = 6 then some (.inl false) else some (.inl (decide (0 < (a0.f_Verts.length : Int))))) else (if a0.f_Bits = 0 then (if 0 < (a0.f_Routers.length : Int) then some (.inl true) else (if a0.f_Head.f_Kind = 6 then some (.inl false) else some (.inl (decide (0 < (a0.f_Verts.length : Int)))))) else some (.inl true))) else (if a0.f_Flags = 0 then (if 0 < (a0.f_Links.length : Int) then some (.inl true) else (if a0.f_Head.f_Kind = 2 then (if a0.f_Head.f_Kind = 6 then some (.inl false) else some (.inl (decide (0 < (a0.f_Verts.length : Int))))) else (if a0.f_Bits = 0 then (if 0 < (a0.f_Routers.length : Int) then some (.inl true) else (if a0.f_Head.f_Kind = 6 then some (.inl false) else some (.inl (decide (0 < (a0.f_Verts.length : Int)))))) else some (.inl true)))) else some (.inl true))) : Option (Sum (Bool) f_plenumref1_RightLsa.R))).bind fun y2 => match y2 with | .inl s2 => (if s2 = true then some false else ((loopO (f_plenumref1_RightLsa.b0 a0) 0).bind fun y3 => match y3 with | .inl s3 => ((loopO (f_plenumref1_RightLsa.b1 a0) 0).bind fun y5 => match y5 with | .inl s4 => ((loopO (f_plenumref1_RightLsa.b2 a0) 0).bind fun y7 => match y7 with | .inl s5 => some true | .inr r_ => some r_) | .inr r_ => some r_) | .inr r_ => some r_)) | .inr r_ => some r_)) | .inr r_ => some r_)
set_option maxHeartbeats 1000000 in
theorem f_plenumref1_RightLsa.ok {z w : World} {F G : Hp} (hG : G ⊆ F) {a0 : T_api_Lsa} {A_a0_8 : Option Addr} {c_a0_8 : Nat} {X_a0_8 : Hp} {A_a0_10 : Option Addr} {c_a0_10 : Nat} {X_a0_10 : Hp} {A_a0_11 : Option Addr} {c_a0_11 : Nat} {X_a0_11 : Hp} {r : f_plenumref1_RightLsa.R} (H : f_plenumref1_RightLsa a0 = some r) (HF : Fits z w F) (hX_a0_8 : X_a0_8 ⊆ F) (hr_a0_8 : RdS k_T_api_Link X_a0_8 A_a0_8 c_a0_8 a0.f_Links) (hX_a0_10 : X_a0_10 ⊆ F) (hr_a0_10 : RdS (kInt .i64) X_a0_10 A_a0_10 c_a0_10 a0.f_Routers) (hX_a0_11 : X_a0_11 ⊆ F) (hr_a0_11 : RdS k_T_api_Vert X_a0_11 A_a0_11 c_a0_11 a0.f_Verts) :
  Calls Try.prog 29 [.agg [.int .i64 a0.f_Head.f_Age, .int .i64 a0.f_Head.f_Kind, .int .i64 a0.f_Head.f_Id, .int .i64 a0.f_Head.f_Adv, .int .i64 a0.f_Head.f_Seq, .int .i64 a0.f_Head.f_Sum, .int .i64 a0.f_Head.f_Len, .int .i64 a0.f_Flags, .slice A_a0_8 a0.f_Links.length c_a0_8, .int .i64 a0.f_Bits, .slice A_a0_10 a0.f_Routers.length c_a0_10, .slice A_a0_11 a0.f_Verts.length c_a0_11].toArray].toArray w fun e w' => e = .returned (.bool r) ∧ Fits z w' F := by
 unfold f_plenumref1_RightLsa at H
 refine enter0 Try.func29 rfl Try.ntmps29 rfl (E := [(0, .agg [.int .i64 a0.f_Head.f_Age, .int .i64 a0.f_Head.f_Kind, .int .i64 a0.f_Head.f_Id, .int .i64 a0.f_Head.f_Adv, .int .i64 a0.f_Head.f_Seq, .int .i64 a0.f_Head.f_Sum, .int .i64 a0.f_Head.f_Len, .int .i64 a0.f_Flags, .slice A_a0_8 a0.f_Links.length c_a0_8, .int .i64 a0.f_Bits, .slice A_a0_10 a0.f_Routers.length c_a0_10, .slice A_a0_11 a0.f_Verts.length c_a0_11].toArray)]) rfl ?_
 refine cSeq (fun K1 hK1 => ?_)
 refine cRgn [] trivial ?_
 refine eW (oBox HF rfl) rfl ?_
 rintro _ w1 ⟨g1, rfl, HF1⟩
 refine sL (asg rfl) rfl ?_
 refine lE ?_
 refine kN (?_)
 refine hK1 _ _ ?_
 refine cSeq (fun K2 hK2 => ?_)
 refine cSeq (fun K3 hK3 => ?_)
 replace H := bnd H; obtain ⟨y1, H, Ho1⟩ := H
 refine cJoin (y := y1) (fun (s1 : Bool) a w => Env 180 [(1, .pointer (some ⟨g1, 0, none⟩)), (2, .bool false), (49, .bool s1)] a ∧ Fits z w (bk g1 44 [.int .i64 a0.f_Head.f_Age, .int .i64 a0.f_Head.f_Kind, .int .i64 a0.f_Head.f_Id, .int .i64 a0.f_Head.f_Adv, .int .i64 a0.f_Head.f_Seq, .int .i64 a0.f_Head.f_Sum, .int .i64 a0.f_Head.f_Len, .int .i64 a0.f_Flags, .slice A_a0_8 a0.f_Links.length c_a0_8, .int .i64 a0.f_Bits, .slice A_a0_10 a0.f_Routers.length c_a0_10, .slice A_a0_11 a0.f_Verts.length c_a0_11] :: F)) ?_ ?_
 ·refine cRgn [(4, 12), (9, 17), (14, 22), (20, 28), (25, 33), (30, 38), (36, 44)] ⟨rfl, rfl, rfl, rfl, rfl, rfl, rfl, trivial⟩ ?_
  refine sL (fa44_0 rfl) rfl ?_
  refine sL (ldA (cs := [.int .i64 a0.f_Head.f_Age, .int .i64 a0.f_Head.f_Kind, .int .i64 a0.f_Head.f_Id, .int .i64 a0.f_Head.f_Adv, .int .i64 a0.f_Head.f_Seq, .int .i64 a0.f_Head.f_Sum, .int .i64 a0.f_Head.f_Len]) rfl ti41 rfl rfl (HF1.boxes (o := 0) (n := 7) (mem_h) rfl)) rfl ?_
  replace H := bnd H; obtain ⟨t2, J2, H⟩ := H
  refine eCall isf54 rfl rfl rfl (f_plenumref1_headRight.ok (a0 := a0.f_Head) J2 HF1) ?_
  rintro _ w3 ⟨rfl, HF3⟩
  refine ⟨_, rfl, ?_⟩
  refine sL (uNot rfl) rfl ?_
  refine sL (mv rfl) rfl ?_
  by_cases c8 : t2 = true
  ·replace H := itT c8 H
   refine lSet (i := 12) rfl (wF c8) ?_
   refine sG rfl rfl (fa44_1 rfl) rfl ?_
   refine sG rfl rfl (ld rfl Try.underlying3 rfl (HF3.box (mem_h) rfl)) rfl ?_
   refine sG rfl rfl (bLss rfl rfl) rfl ?_
   refine sL (pkF rfl rfl) rfl ?_
   refine sL (mv rfl) rfl ?_
   by_cases c9 : a0.f_Flags < 0
   ·replace H := itT c9 H
    refine lSet (i := 17) rfl (dT c9) ?_
    refine sN rfl rfl rfl rfl ?_
    refine sN rfl rfl rfl rfl ?_
    refine sN rfl rfl rfl rfl ?_
    refine sL (pkT rfl rfl) rfl ?_
    refine sL (mv rfl) rfl ?_
    refine sN rfl rfl rfl rfl ?_
    refine sN rfl rfl rfl rfl ?_
    refine sN rfl rfl rfl rfl ?_
    refine sN rfl rfl rfl rfl ?_
    refine sL (pkT rfl rfl) rfl ?_
    refine sL (mv rfl) rfl ?_
    refine sN rfl rfl rfl rfl ?_
    refine sN rfl rfl rfl rfl ?_
    refine sN rfl rfl rfl rfl ?_
    refine sL (pkT rfl rfl) rfl ?_
    refine sL (mv rfl) rfl ?_
    refine sN rfl rfl rfl rfl ?_
    refine sN rfl rfl rfl rfl ?_
    refine sN rfl rfl rfl rfl ?_
    refine sL (pkT rfl rfl) rfl ?_
    refine sL (mv rfl) rfl ?_
    refine sN rfl rfl rfl rfl ?_
    refine sN rfl rfl rfl rfl ?_
    refine sN rfl rfl rfl rfl ?_
    refine sN rfl rfl rfl rfl ?_
    refine sL (pkT rfl rfl) rfl ?_
    refine sL (mv rfl) rfl ?_
    refine sN rfl rfl rfl rfl ?_
    refine sN rfl rfl rfl rfl ?_
    refine sN rfl rfl rfl rfl ?_
    refine sN rfl rfl rfl rfl ?_
    refine sL (pkT rfl rfl) rfl ?_
    refine lE ?_
    refine kN (?_)
    exact ofEnv (fun a hE => ⟨_, (Option.some.inj H).symm, ⟨hE.keep (Keep.cons rfl (Keep.cons rfl (Keep.cons rfl (Keep.nil)))), HF3⟩⟩)
   replace H := itF c9 H
   refine lSet (i := 17) rfl (dF c9) ?_
   refine sG rfl rfl (fa44_1 rfl) rfl ?_
   refine sG rfl rfl (ld rfl Try.underlying3 rfl (HF3.box (mem_h) rfl)) rfl ?_
   refine sG rfl rfl (bGtr rfl rfl) rfl ?_
   refine sL (pkF rfl rfl) rfl ?_
   refine sL (mv rfl) rfl ?_
   by_cases c10 : 255 < a0.f_Flags
   ·replace H := itT c10 H
    refine lSet (i := 22) rfl (dT c10) ?_
    refine sN rfl rfl rfl rfl ?_
    refine sN rfl rfl rfl rfl ?_
    refine sN rfl rfl rfl rfl ?_
    refine sN rfl rfl rfl rfl ?_
    refine sL (pkT rfl rfl) rfl ?_
    refine sL (mv rfl) rfl ?_
    refine sN rfl rfl rfl rfl ?_
    refine sN rfl rfl rfl rfl ?_
    refine sN rfl rfl rfl rfl ?_
    refine sL (pkT rfl rfl) rfl ?_
    refine sL (mv rfl) rfl ?_
    refine sN rfl rfl rfl rfl ?_
    refine sN rfl rfl rfl rfl ?_
    refine sN rfl rfl rfl rfl ?_
    refine sL (pkT rfl rfl) rfl ?_
    refine sL (mv rfl) rfl ?_
    refine sN rfl rfl rfl rfl ?_
    refine sN rfl rfl rfl rfl ?_
    refine sN rfl rfl rfl rfl ?_
    refine sN rfl rfl rfl rfl ?_
    refine sL (pkT rfl rfl) rfl ?_
    refine sL (mv rfl) rfl ?_
    refine sN rfl rfl rfl rfl ?_
    refine sN rfl rfl rfl rfl ?_
    refine sN rfl rfl rfl rfl ?_
    refine sN rfl rfl rfl rfl ?_
    refine sL (pkT rfl rfl) rfl ?_
    refine lE ?_
    refine kN (?_)
    exact ofEnv (fun a hE => ⟨_, (Option.some.inj H).symm, ⟨hE.keep (Keep.cons rfl (Keep.cons rfl (Keep.cons rfl (Keep.nil)))), HF3⟩⟩)
   replace H := itF c10 H
   refine lSet (i := 22) rfl (dF c10) ?_
   refine sG rfl rfl (fa44_2 rfl) rfl ?_
   refine sG rfl rfl (ld rfl Try.underlying42 rfl (HF3.box (mem_h) rfl)) rfl ?_
   refine sG rfl rfl (lnS rfl Try.underlying42) rfl ?_
   refine sG rfl rfl (bGtr rfl rfl) rfl ?_
   refine sL (pkF rfl rfl) rfl ?_
   refine sL (mv rfl) rfl ?_
   by_cases c11 : 64 < (a0.f_Links.length : Int)
   ·replace H := itT c11 H
    refine lSet (i := 28) rfl (dT c11) ?_
    refine sN rfl rfl rfl rfl ?_
    refine sN rfl rfl rfl rfl ?_
    refine sN rfl rfl rfl rfl ?_
    refine sL (pkT rfl rfl) rfl ?_
    refine sL (mv rfl) rfl ?_
    refine sN rfl rfl rfl rfl ?_
    refine sN rfl rfl rfl rfl ?_
    refine sN rfl rfl rfl rfl ?_
    refine sL (pkT rfl rfl) rfl ?_
    refine sL (mv rfl) rfl ?_
    refine sN rfl rfl rfl rfl ?_
    refine sN rfl rfl rfl rfl ?_
    refine sN rfl rfl rfl rfl ?_
    refine sN rfl rfl rfl rfl ?_
    refine sL (pkT rfl rfl) rfl ?_
    refine sL (mv rfl) rfl ?_
    refine sN rfl rfl rfl rfl ?_
    refine sN rfl rfl rfl rfl ?_
    refine sN rfl rfl rfl rfl ?_
    refine sN rfl rfl rfl rfl ?_
    refine sL (pkT rfl rfl) rfl ?_
    refine lE ?_
    refine kN (?_)
    exact ofEnv (fun a hE => ⟨_, (Option.some.inj H).symm, ⟨hE.keep (Keep.cons rfl (Keep.cons rfl (Keep.cons rfl (Keep.nil)))), HF3⟩⟩)
   replace H := itF c11 H
   refine lSet (i := 28) rfl (dF c11) ?_
   refine sG rfl rfl (fa44_3 rfl) rfl ?_
   refine sG rfl rfl (ld rfl Try.underlying3 rfl (HF3.box (mem_h) rfl)) rfl ?_
   refine sG rfl rfl (bLss rfl rfl) rfl ?_
   refine sL (pkF rfl rfl) rfl ?_
   refine sL (mv rfl) rfl ?_
   by_cases c12 : a0.f_Bits < 0
   ·replace H := itT c12 H
    refine lSet (i := 33) rfl (dT c12) ?_
    refine sN rfl rfl rfl rfl ?_
    refine sN rfl rfl rfl rfl ?_
    refine sN rfl rfl rfl rfl ?_
    refine sL (pkT rfl rfl) rfl ?_
    refine sL (mv rfl) rfl ?_
    refine sN rfl rfl rfl rfl ?_
    refine sN rfl rfl rfl rfl ?_
    refine sN rfl rfl rfl rfl ?_
    refine sN rfl rfl rfl rfl ?_
    refine sL (pkT rfl rfl) rfl ?_
    refine sL (mv rfl) rfl ?_
    refine sN rfl rfl rfl rfl ?_
    refine sN rfl rfl rfl rfl ?_
    refine sN rfl rfl rfl rfl ?_
    refine sN rfl rfl rfl rfl ?_
    refine sL (pkT rfl rfl) rfl ?_
    refine lE ?_
    refine kN (?_)
    exact ofEnv (fun a hE => ⟨_, (Option.some.inj H).symm, ⟨hE.keep (Keep.cons rfl (Keep.cons rfl (Keep.cons rfl (Keep.nil)))), HF3⟩⟩)
   replace H := itF c12 H
   refine lSet (i := 33) rfl (dF c12) ?_
   refine sG rfl rfl (fa44_3 rfl) rfl ?_
   refine sG rfl rfl (ld rfl Try.underlying3 rfl (HF3.box (mem_h) rfl)) rfl ?_
   refine sG rfl rfl (bGtr rfl rfl) rfl ?_
   refine sL (pkF rfl rfl) rfl ?_
   refine sL (mv rfl) rfl ?_
   by_cases c13 : 32 < a0.f_Bits
   ·replace H := itT c13 H
    refine lSet (i := 38) rfl (dT c13) ?_
    refine sN rfl rfl rfl rfl ?_
    refine sN rfl rfl rfl rfl ?_
    refine sN rfl rfl rfl rfl ?_
    refine sN rfl rfl rfl rfl ?_
    refine sL (pkT rfl rfl) rfl ?_
    refine sL (mv rfl) rfl ?_
    refine sN rfl rfl rfl rfl ?_
    refine sN rfl rfl rfl rfl ?_
    refine sN rfl rfl rfl rfl ?_
    refine sN rfl rfl rfl rfl ?_
    refine sL (pkT rfl rfl) rfl ?_
    refine lE ?_
    refine kN (?_)
    exact ofEnv (fun a hE => ⟨_, (Option.some.inj H).symm, ⟨hE.keep (Keep.cons rfl (Keep.cons rfl (Keep.cons rfl (Keep.nil)))), HF3⟩⟩)
   replace H := itF c13 H
   refine lSet (i := 38) rfl (dF c13) ?_
   refine sG rfl rfl (fa44_4 rfl) rfl ?_
   refine sG rfl rfl (ld rfl Try.underlying30 rfl (HF3.box (mem_h) rfl)) rfl ?_
   refine sG rfl rfl (lnS rfl Try.underlying30) rfl ?_
   refine sG rfl rfl (bGtr rfl rfl) rfl ?_
   refine sL (pkF rfl rfl) rfl ?_
   refine sL (mv rfl) rfl ?_
   by_cases c14 : 64 < (a0.f_Routers.length : Int)
   ·replace H := itT c14 H
    refine lSet (i := 44) rfl (dT c14) ?_
    refine sN rfl rfl rfl rfl ?_
    refine sN rfl rfl rfl rfl ?_
    refine sN rfl rfl rfl rfl ?_
    refine sN rfl rfl rfl rfl ?_
    refine sL (pkT rfl rfl) rfl ?_
    refine lE ?_
    refine kN (?_)
    exact ofEnv (fun a hE => ⟨_, (Option.some.inj H).symm, ⟨hE.keep (Keep.cons rfl (Keep.cons rfl (Keep.cons rfl (Keep.nil)))), HF3⟩⟩)
   replace H := itF c14 H
   refine lSet (i := 44) rfl (dF c14) ?_
   refine sG rfl rfl (fa44_5 rfl) rfl ?_
   refine sG rfl rfl (ld rfl Try.underlying26 rfl (HF3.box (mem_h) rfl)) rfl ?_
   refine sG rfl rfl (lnS rfl Try.underlying26) rfl ?_
   refine sG rfl rfl (bGtr rfl rfl) rfl ?_
   refine sL (pkF rfl rfl) rfl ?_
   refine lE ?_
   refine kN (?_)
   exact ofEnv (fun a hE => ⟨_, (Option.some.inj H).symm, ⟨hE.keep (Keep.cons rfl (Keep.cons rfl (Keep.cons rfl (Keep.nil)))), HF3⟩⟩)
  replace H := itF c8 H
  refine lSet (i := 12) rfl (wT c8) ?_
  refine sN rfl rfl rfl rfl ?_
  refine sN rfl rfl rfl rfl ?_
  refine sN rfl rfl rfl rfl ?_
  refine sL (pkT rfl rfl) rfl ?_
  refine sL (mv rfl) rfl ?_
  refine sN rfl rfl rfl rfl ?_
  refine sN rfl rfl rfl rfl ?_
  refine sN rfl rfl rfl rfl ?_
  refine sL (pkT rfl rfl) rfl ?_
  refine sL (mv rfl) rfl ?_
  refine sN rfl rfl rfl rfl ?_
  refine sN rfl rfl rfl rfl ?_
  refine sN rfl rfl rfl rfl ?_
  refine sN rfl rfl rfl rfl ?_
  refine sL (pkT rfl rfl) rfl ?_
  refine sL (mv rfl) rfl ?_
  refine sN rfl rfl rfl rfl ?_
  refine sN rfl rfl rfl rfl ?_
  refine sN rfl rfl rfl rfl ?_
  refine sL (pkT rfl rfl) rfl ?_
  refine sL (mv rfl) rfl ?_
  refine sN rfl rfl rfl rfl ?_
  refine sN rfl rfl rfl rfl ?_
  refine sN rfl rfl rfl rfl ?_
  refine sL (pkT rfl rfl) rfl ?_
  refine sL (mv rfl) rfl ?_
  refine sN rfl rfl rfl rfl ?_
  refine sN rfl rfl rfl rfl ?_
  refine sN rfl rfl rfl rfl ?_
  refine sN rfl rfl rfl rfl ?_
  refine sL (pkT rfl rfl) rfl ?_
  refine sL (mv rfl) rfl ?_
  refine sN rfl rfl rfl rfl ?_
  refine sN rfl rfl rfl rfl ?_
  refine sN rfl rfl rfl rfl ?_
  refine sN rfl rfl rfl rfl ?_
  refine sL (pkT rfl rfl) rfl ?_
  refine lE ?_
  refine kN (?_)
  exact ofEnv (fun a hE => ⟨_, (Option.some.inj H).symm, ⟨hE.keep (Keep.cons rfl (Keep.cons rfl (Keep.cons rfl (Keep.nil)))), HF3⟩⟩)
 rintro s1 a w4 rfl ⟨hE, HF4⟩
 replace H := Ho1
 refine go_k hE ?_
 refine kN (?_)
 refine hK3 _ _ ?_
 by_cases c15 : s1 = true
 ·replace H := itT c15 H
  refine cSet (i := 49) rfl (vT c15) ?_
  refine cT rfl ?_
  refine cSeq (fun K4 hK4 => ?_)
  refine cRgn [] trivial ?_
  refine sL (asg rfl) rfl ?_
  refine lE ?_
  refine kN (?_)
  refine hK4 _ _ ?_
  refine cRet ?_
  obtain rfl := Option.some.inj H
  refine kR (?_)
  refine ret1 rfl rfl ?_
  have HF5 := HF4.sublist (sl_dc sR)
  exact ⟨rfl, HF5⟩
 replace H := itF c15 H
 refine cSet (i := 49) rfl (vF c15) ?_
 refine cF rfl ?_
 refine cSkip ?_
 refine kN (?_)
 refine hK2 _ _ ?_
 refine cSeq (fun K5 hK5 => ?_)
 refine cRgn [] trivial ?_
 refine sL (fa44_0 rfl) rfl ?_
 refine sL (fa41_1 rfl) rfl ?_
 refine sL (ld rfl Try.underlying3 rfl (HF4.box (mem_h) rfl)) rfl ?_
 refine sL (asg rfl) rfl ?_
 refine lE ?_
 refine kN (?_)
 refine hK5 _ _ ?_
 refine cSeq (fun K6 hK6 => ?_)
 refine cSeq (fun K7 hK7 => ?_)
 replace H := bnd H; obtain ⟨y2, H, Ho2⟩ := H
 refine cJoin (y := y2) (fun (s2 : Bool) a w => Env 180 [(1, .pointer (some ⟨g1, 0, none⟩)), (2, .bool false), (90, .bool s2)] a ∧ Fits z w (bk g1 44 [.int .i64 a0.f_Head.f_Age, .int .i64 a0.f_Head.f_Kind, .int .i64 a0.f_Head.f_Id, .int .i64 a0.f_Head.f_Adv, .int .i64 a0.f_Head.f_Seq, .int .i64 a0.f_Head.f_Sum, .int .i64 a0.f_Head.f_Len, .int .i64 a0.f_Flags, .slice A_a0_8 a0.f_Links.length c_a0_8, .int .i64 a0.f_Bits, .slice A_a0_10 a0.f_Routers.length c_a0_10, .slice A_a0_11 a0.f_Verts.length c_a0_11] :: F)) ?_ ?_
 ·refine cRgn [(2, 55), (6, 59), (13, 66), (16, 69), (20, 73), (28, 81), (31, 84)] ⟨rfl, rfl, rfl, rfl, rfl, rfl, rfl, trivial⟩ ?_
  refine sL (mv rfl) rfl ?_
  refine sL (bNeq rfl rfl) rfl ?_
  refine sL (mv rfl) rfl ?_
  by_cases c29 : a0.f_Head.f_Kind = 1
  ·replace H := itT c29 H
   refine lSet (i := 55) rfl (nF c29) ?_
   refine sN rfl rfl rfl rfl ?_
   refine sN rfl rfl rfl rfl ?_
   refine sN rfl rfl rfl rfl ?_
   refine sN rfl rfl rfl rfl ?_
   refine sU rfl rfl rfl rfl ?_
   refine sU rfl rfl rfl rfl ?_
   refine sU rfl rfl rfl rfl ?_
   refine sU rfl rfl rfl rfl ?_
   refine sN rfl rfl rfl rfl ?_
   refine sL (pkF rfl rfl) rfl ?_
   refine sL (mv rfl) rfl ?_
   refine sG rfl rfl (mv rfl) rfl ?_
   refine sG rfl rfl (bNeq rfl rfl) rfl ?_
   refine sG rfl rfl (mv rfl) rfl ?_
   by_cases c30 : a0.f_Head.f_Kind = 2
   ·replace H := itT c30 H
    refine lSet (i := 69) rfl (nF c30) ?_
    refine sN rfl rfl rfl rfl ?_
    refine sN rfl rfl rfl rfl ?_
    refine sN rfl rfl rfl rfl ?_
    refine sN rfl rfl rfl rfl ?_
    refine sU rfl rfl rfl rfl ?_
    refine sU rfl rfl rfl rfl ?_
    refine sU rfl rfl rfl rfl ?_
    refine sU rfl rfl rfl rfl ?_
    refine sN rfl rfl rfl rfl ?_
    refine sG rfl rfl (pkF rfl rfl) rfl ?_
    refine sL (pkF rfl rfl) rfl ?_
    refine sL (mv rfl) rfl ?_
    refine sG rfl rfl (mv rfl) rfl ?_
    refine sG rfl rfl (bNeq rfl rfl) rfl ?_
    refine sG rfl rfl (mv rfl) rfl ?_
    by_cases c31 : a0.f_Head.f_Kind = 6
    ·replace H := itT c31 H
     refine lSet (i := 84) rfl (nF c31) ?_
     refine sN rfl rfl rfl rfl ?_
     refine sN rfl rfl rfl rfl ?_
     refine sN rfl rfl rfl rfl ?_
     refine sN rfl rfl rfl rfl ?_
     refine sG rfl rfl (pkF rfl rfl) rfl ?_
     refine sL (pkF rfl rfl) rfl ?_
     refine lE ?_
     refine kN (?_)
     exact ofEnv (fun a hE => ⟨_, (Option.some.inj H).symm, ⟨hE.keep (Keep.cons rfl (Keep.cons rfl (Keep.cons rfl (Keep.nil)))), HF4⟩⟩)
    replace H := itF c31 H
    refine lSet (i := 84) rfl (nT c31) ?_
    refine sG rfl rfl (fa44_5 rfl) rfl ?_
    refine sG rfl rfl (ld rfl Try.underlying26 rfl (HF4.box (mem_h) rfl)) rfl ?_
    refine sG rfl rfl (lnS rfl Try.underlying26) rfl ?_
    refine sG rfl rfl (bGtr rfl rfl) rfl ?_
    refine sG rfl rfl (pkT rfl rfl) rfl ?_
    refine sL (pkF rfl rfl) rfl ?_
    refine lE ?_
    refine kN (?_)
    exact ofEnv (fun a hE => ⟨_, (Option.some.inj H).symm, ⟨hE.keep (Keep.cons rfl (Keep.cons rfl (Keep.cons rfl (Keep.nil)))), HF4⟩⟩)
   replace H := itF c30 H
   refine lSet (i := 69) rfl (nT c30) ?_
   refine sG rfl rfl (fa44_3 rfl) rfl ?_
   refine sG rfl rfl (ld rfl Try.underlying3 rfl (HF4.box (mem_h) rfl)) rfl ?_
   refine sG rfl rfl (bNeq rfl rfl) rfl ?_
   refine sG rfl rfl (mv rfl) rfl ?_
   by_cases c32 : a0.f_Bits = 0
   ·replace H := itT c32 H
    refine lSet (i := 73) rfl (nF c32) ?_
    refine sG rfl rfl (fa44_4 rfl) rfl ?_
    refine sG rfl rfl (ld rfl Try.underlying30 rfl (HF4.box (mem_h) rfl)) rfl ?_
    refine sG rfl rfl (lnS rfl Try.underlying30) rfl ?_
    refine sG rfl rfl (bGtr rfl rfl) rfl ?_
    refine sG rfl rfl (pkF rfl rfl) rfl ?_
    refine sG rfl rfl (pkT rfl rfl) rfl ?_
    refine sL (pkF rfl rfl) rfl ?_
    refine sL (mv rfl) rfl ?_
    by_cases c33 : 0 < (a0.f_Routers.length : Int)
    ·replace H := itT c33 H
     refine lSet (i := 81) rfl (dT c33) ?_
     refine sN rfl rfl rfl rfl ?_
     refine sN rfl rfl rfl rfl ?_
     refine sN rfl rfl rfl rfl ?_
     refine sU rfl rfl rfl rfl ?_
     refine sU rfl rfl rfl rfl ?_
     refine sU rfl rfl rfl rfl ?_
     refine sU rfl rfl rfl rfl ?_
     refine sN rfl rfl rfl rfl ?_
     refine sL (pkT rfl rfl) rfl ?_
     refine lE ?_
     refine kN (?_)
     exact ofEnv (fun a hE => ⟨_, (Option.some.inj H).symm, ⟨hE.keep (Keep.cons rfl (Keep.cons rfl (Keep.cons rfl (Keep.nil)))), HF4⟩⟩)
    replace H := itF c33 H
    refine lSet (i := 81) rfl (dF c33) ?_
    refine sG rfl rfl (mv rfl) rfl ?_
    refine sG rfl rfl (bNeq rfl rfl) rfl ?_
    refine sG rfl rfl (mv rfl) rfl ?_
    by_cases c34 : a0.f_Head.f_Kind = 6
    ·replace H := itT c34 H
     refine lSet (i := 84) rfl (nF c34) ?_
     refine sN rfl rfl rfl rfl ?_
     refine sN rfl rfl rfl rfl ?_
     refine sN rfl rfl rfl rfl ?_
     refine sN rfl rfl rfl rfl ?_
     refine sG rfl rfl (pkF rfl rfl) rfl ?_
     refine sL (pkF rfl rfl) rfl ?_
     refine lE ?_
     refine kN (?_)
     exact ofEnv (fun a hE => ⟨_, (Option.some.inj H).symm, ⟨hE.keep (Keep.cons rfl (Keep.cons rfl (Keep.cons rfl (Keep.nil)))), HF4⟩⟩)
    replace H := itF c34 H
    refine lSet (i := 84) rfl (nT c34) ?_
    refine sG rfl rfl (fa44_5 rfl) rfl ?_
    refine sG rfl rfl (ld rfl Try.underlying26 rfl (HF4.box (mem_h) rfl)) rfl ?_
    refine sG rfl rfl (lnS rfl Try.underlying26) rfl ?_
    refine sG rfl rfl (bGtr rfl rfl) rfl ?_
    refine sG rfl rfl (pkT rfl rfl) rfl ?_
    refine sL (pkF rfl rfl) rfl ?_
    refine lE ?_
    refine kN (?_)
    exact ofEnv (fun a hE => ⟨_, (Option.some.inj H).symm, ⟨hE.keep (Keep.cons rfl (Keep.cons rfl (Keep.cons rfl (Keep.nil)))), HF4⟩⟩)
   replace H := itF c32 H
   refine lSet (i := 73) rfl (nT c32) ?_
   refine sN rfl rfl rfl rfl ?_
   refine sN rfl rfl rfl rfl ?_
   refine sN rfl rfl rfl rfl ?_
   refine sN rfl rfl rfl rfl ?_
   refine sG rfl rfl (pkT rfl rfl) rfl ?_
   refine sG rfl rfl (pkT rfl rfl) rfl ?_
   refine sL (pkF rfl rfl) rfl ?_
   refine sL (mv rfl) rfl ?_
   refine sN rfl rfl rfl rfl ?_
   refine sN rfl rfl rfl rfl ?_
   refine sN rfl rfl rfl rfl ?_
   refine sU rfl rfl rfl rfl ?_
   refine sU rfl rfl rfl rfl ?_
   refine sU rfl rfl rfl rfl ?_
   refine sU rfl rfl rfl rfl ?_
   refine sN rfl rfl rfl rfl ?_
   refine sL (pkT rfl rfl) rfl ?_
   refine lE ?_
   refine kN (?_)
   exact ofEnv (fun a hE => ⟨_, (Option.some.inj H).symm, ⟨hE.keep (Keep.cons rfl (Keep.cons rfl (Keep.cons rfl (Keep.nil)))), HF4⟩⟩)
  replace H := itF c29 H
  refine lSet (i := 55) rfl (nT c29) ?_
  refine sG rfl rfl (fa44_1 rfl) rfl ?_
  refine sG rfl rfl (ld rfl Try.underlying3 rfl (HF4.box (mem_h) rfl)) rfl ?_
  refine sG rfl rfl (bNeq rfl rfl) rfl ?_
  refine sG rfl rfl (mv rfl) rfl ?_
  by_cases c35 : a0.f_Flags = 0
  ·replace H := itT c35 H
   refine lSet (i := 59) rfl (nF c35) ?_
   refine sG rfl rfl (fa44_2 rfl) rfl ?_
   refine sG rfl rfl (ld rfl Try.underlying42 rfl (HF4.box (mem_h) rfl)) rfl ?_
   refine sG rfl rfl (lnS rfl Try.underlying42) rfl ?_
   refine sG rfl rfl (bGtr rfl rfl) rfl ?_
   refine sG rfl rfl (pkF rfl rfl) rfl ?_
   refine sL (pkT rfl rfl) rfl ?_
   refine sL (mv rfl) rfl ?_
   by_cases c36 : 0 < (a0.f_Links.length : Int)
   ·replace H := itT c36 H
    refine lSet (i := 66) rfl (dT c36) ?_
    refine sN rfl rfl rfl rfl ?_
    refine sN rfl rfl rfl rfl ?_
    refine sN rfl rfl rfl rfl ?_
    refine sU rfl rfl rfl rfl ?_
    refine sU rfl rfl rfl rfl ?_
    refine sU rfl rfl rfl rfl ?_
    refine sU rfl rfl rfl rfl ?_
    refine sU rfl rfl rfl rfl ?_
    refine sU rfl rfl rfl rfl ?_
    refine sU rfl rfl rfl rfl ?_
    refine sU rfl rfl rfl rfl ?_
    refine sU rfl rfl rfl rfl ?_
    refine sN rfl rfl rfl rfl ?_
    refine sL (pkT rfl rfl) rfl ?_
    refine sL (mv rfl) rfl ?_
    refine sN rfl rfl rfl rfl ?_
    refine sN rfl rfl rfl rfl ?_
    refine sN rfl rfl rfl rfl ?_
    refine sU rfl rfl rfl rfl ?_
    refine sU rfl rfl rfl rfl ?_
    refine sU rfl rfl rfl rfl ?_
    refine sU rfl rfl rfl rfl ?_
    refine sN rfl rfl rfl rfl ?_
    refine sL (pkT rfl rfl) rfl ?_
    refine lE ?_
    refine kN (?_)
    exact ofEnv (fun a hE => ⟨_, (Option.some.inj H).symm, ⟨hE.keep (Keep.cons rfl (Keep.cons rfl (Keep.cons rfl (Keep.nil)))), HF4⟩⟩)
   replace H := itF c36 H
   refine lSet (i := 66) rfl (dF c36) ?_
   refine sG rfl rfl (mv rfl) rfl ?_
   refine sG rfl rfl (bNeq rfl rfl) rfl ?_
   refine sG rfl rfl (mv rfl) rfl ?_
   by_cases c37 : a0.f_Head.f_Kind = 2
   ·replace H := itT c37 H
    refine lSet (i := 69) rfl (nF c37) ?_
    refine sN rfl rfl rfl rfl ?_
    refine sN rfl rfl rfl rfl ?_
    refine sN rfl rfl rfl rfl ?_
    refine sN rfl rfl rfl rfl ?_
    refine sU rfl rfl rfl rfl ?_
    refine sU rfl rfl rfl rfl ?_
    refine sU rfl rfl rfl rfl ?_
    refine sU rfl rfl rfl rfl ?_
    refine sN rfl rfl rfl rfl ?_
    refine sG rfl rfl (pkF rfl rfl) rfl ?_
    refine sL (pkF rfl rfl) rfl ?_
    refine sL (mv rfl) rfl ?_
    refine sG rfl rfl (mv rfl) rfl ?_
    refine sG rfl rfl (bNeq rfl rfl) rfl ?_
    refine sG rfl rfl (mv rfl) rfl ?_
    by_cases c38 : a0.f_Head.f_Kind = 6
    ·replace H := itT c38 H
     refine lSet (i := 84) rfl (nF c38) ?_
     refine sN rfl rfl rfl rfl ?_
     refine sN rfl rfl rfl rfl ?_
     refine sN rfl rfl rfl rfl ?_
     refine sN rfl rfl rfl rfl ?_
     refine sG rfl rfl (pkF rfl rfl) rfl ?_
     refine sL (pkF rfl rfl) rfl ?_
     refine lE ?_
     refine kN (?_)
     exact ofEnv (fun a hE => ⟨_, (Option.some.inj H).symm, ⟨hE.keep (Keep.cons rfl (Keep.cons rfl (Keep.cons rfl (Keep.nil)))), HF4⟩⟩)
    replace H := itF c38 H
    refine lSet (i := 84) rfl (nT c38) ?_
    refine sG rfl rfl (fa44_5 rfl) rfl ?_
    refine sG rfl rfl (ld rfl Try.underlying26 rfl (HF4.box (mem_h) rfl)) rfl ?_
    refine sG rfl rfl (lnS rfl Try.underlying26) rfl ?_
    refine sG rfl rfl (bGtr rfl rfl) rfl ?_
    refine sG rfl rfl (pkT rfl rfl) rfl ?_
    refine sL (pkF rfl rfl) rfl ?_
    refine lE ?_
    refine kN (?_)
    exact ofEnv (fun a hE => ⟨_, (Option.some.inj H).symm, ⟨hE.keep (Keep.cons rfl (Keep.cons rfl (Keep.cons rfl (Keep.nil)))), HF4⟩⟩)
   replace H := itF c37 H
   refine lSet (i := 69) rfl (nT c37) ?_
   refine sG rfl rfl (fa44_3 rfl) rfl ?_
   refine sG rfl rfl (ld rfl Try.underlying3 rfl (HF4.box (mem_h) rfl)) rfl ?_
   refine sG rfl rfl (bNeq rfl rfl) rfl ?_
   refine sG rfl rfl (mv rfl) rfl ?_
   by_cases c39 : a0.f_Bits = 0
   ·replace H := itT c39 H
    refine lSet (i := 73) rfl (nF c39) ?_
    refine sG rfl rfl (fa44_4 rfl) rfl ?_
    refine sG rfl rfl (ld rfl Try.underlying30 rfl (HF4.box (mem_h) rfl)) rfl ?_
    refine sG rfl rfl (lnS rfl Try.underlying30) rfl ?_
    refine sG rfl rfl (bGtr rfl rfl) rfl ?_
    refine sG rfl rfl (pkF rfl rfl) rfl ?_
    refine sG rfl rfl (pkT rfl rfl) rfl ?_
    refine sL (pkF rfl rfl) rfl ?_
    refine sL (mv rfl) rfl ?_
    by_cases c40 : 0 < (a0.f_Routers.length : Int)
    ·replace H := itT c40 H
     refine lSet (i := 81) rfl (dT c40) ?_
     refine sN rfl rfl rfl rfl ?_
     refine sN rfl rfl rfl rfl ?_
     refine sN rfl rfl rfl rfl ?_
     refine sU rfl rfl rfl rfl ?_
     refine sU rfl rfl rfl rfl ?_
     refine sU rfl rfl rfl rfl ?_
     refine sU rfl rfl rfl rfl ?_
     refine sN rfl rfl rfl rfl ?_
     refine sL (pkT rfl rfl) rfl ?_
     refine lE ?_
     refine kN (?_)
     exact ofEnv (fun a hE => ⟨_, (Option.some.inj H).symm, ⟨hE.keep (Keep.cons rfl (Keep.cons rfl (Keep.cons rfl (Keep.nil)))), HF4⟩⟩)
    replace H := itF c40 H
    refine lSet (i := 81) rfl (dF c40) ?_
    refine sG rfl rfl (mv rfl) rfl ?_
    refine sG rfl rfl (bNeq rfl rfl) rfl ?_
    refine sG rfl rfl (mv rfl) rfl ?_
    by_cases c41 : a0.f_Head.f_Kind = 6
    ·replace H := itT c41 H
     refine lSet (i := 84) rfl (nF c41) ?_
     refine sN rfl rfl rfl rfl ?_
     refine sN rfl rfl rfl rfl ?_
     refine sN rfl rfl rfl rfl ?_
     refine sN rfl rfl rfl rfl ?_
     refine sG rfl rfl (pkF rfl rfl) rfl ?_
     refine sL (pkF rfl rfl) rfl ?_
     refine lE ?_
     refine kN (?_)
     exact ofEnv (fun a hE => ⟨_, (Option.some.inj H).symm, ⟨hE.keep (Keep.cons rfl (Keep.cons rfl (Keep.cons rfl (Keep.nil)))), HF4⟩⟩)
    replace H := itF c41 H
    refine lSet (i := 84) rfl (nT c41) ?_
    refine sG rfl rfl (fa44_5 rfl) rfl ?_
    refine sG rfl rfl (ld rfl Try.underlying26 rfl (HF4.box (mem_h) rfl)) rfl ?_
    refine sG rfl rfl (lnS rfl Try.underlying26) rfl ?_
    refine sG rfl rfl (bGtr rfl rfl) rfl ?_
    refine sG rfl rfl (pkT rfl rfl) rfl ?_
    refine sL (pkF rfl rfl) rfl ?_
    refine lE ?_
    refine kN (?_)
    exact ofEnv (fun a hE => ⟨_, (Option.some.inj H).symm, ⟨hE.keep (Keep.cons rfl (Keep.cons rfl (Keep.cons rfl (Keep.nil)))), HF4⟩⟩)
   replace H := itF c39 H
   refine lSet (i := 73) rfl (nT c39) ?_
   refine sN rfl rfl rfl rfl ?_
   refine sN rfl rfl rfl rfl ?_
   refine sN rfl rfl rfl rfl ?_
   refine sN rfl rfl rfl rfl ?_
   refine sG rfl rfl (pkT rfl rfl) rfl ?_
   refine sG rfl rfl (pkT rfl rfl) rfl ?_
   refine sL (pkF rfl rfl) rfl ?_
   refine sL (mv rfl) rfl ?_
   refine sN rfl rfl rfl rfl ?_
   refine sN rfl rfl rfl rfl ?_
   refine sN rfl rfl rfl rfl ?_
   refine sU rfl rfl rfl rfl ?_
   refine sU rfl rfl rfl rfl ?_
   refine sU rfl rfl rfl rfl ?_
   refine sU rfl rfl rfl rfl ?_
   refine sN rfl rfl rfl rfl ?_
   refine sL (pkT rfl rfl) rfl ?_
   refine lE ?_
   refine kN (?_)
   exact ofEnv (fun a hE => ⟨_, (Option.some.inj H).symm, ⟨hE.keep (Keep.cons rfl (Keep.cons rfl (Keep.cons rfl (Keep.nil)))), HF4⟩⟩)
  replace H := itF c35 H
  refine lSet (i := 59) rfl (nT c35) ?_
  refine sN rfl rfl rfl rfl ?_
  refine sN rfl rfl rfl rfl ?_
  refine sN rfl rfl rfl rfl ?_
  refine sN rfl rfl rfl rfl ?_
  refine sG rfl rfl (pkT rfl rfl) rfl ?_
  refine sL (pkT rfl rfl) rfl ?_
  refine sL (mv rfl) rfl ?_
  refine sN rfl rfl rfl rfl ?_
  refine sN rfl rfl rfl rfl ?_
  refine sN rfl rfl rfl rfl ?_
  refine sU rfl rfl rfl rfl ?_
  refine sU rfl rfl rfl rfl ?_
  refine sU rfl rfl rfl rfl ?_
  refine sU rfl rfl rfl rfl ?_
  refine sU rfl rfl rfl rfl ?_
  refine sU rfl rfl rfl rfl ?_
  refine sU rfl rfl rfl rfl ?_
  refine sU rfl rfl rfl rfl ?_
  refine sU rfl rfl rfl rfl ?_
  refine sN rfl rfl rfl rfl ?_
  refine sL (pkT rfl rfl) rfl ?_
  refine sL (mv rfl) rfl ?_
  refine sN rfl rfl rfl rfl ?_
  refine sN rfl rfl rfl rfl ?_
  refine sN rfl rfl rfl rfl ?_
  refine sU rfl rfl rfl rfl ?_
  refine sU rfl rfl rfl rfl ?_
  refine sU rfl rfl rfl rfl ?_
  refine sU rfl rfl rfl rfl ?_
  refine sN rfl rfl rfl rfl ?_
  refine sL (pkT rfl rfl) rfl ?_
  refine lE ?_
  refine kN (?_)
  exact ofEnv (fun a hE => ⟨_, (Option.some.inj H).symm, ⟨hE.keep (Keep.cons rfl (Keep.cons rfl (Keep.cons rfl (Keep.nil)))), HF4⟩⟩)
 rintro s2 a w5 rfl ⟨hE, HF6⟩
 replace H := Ho2
 refine go_k hE ?_
 refine kN (?_)
 refine hK7 _ _ ?_
 by_cases c42 : s2 = true
 ·replace H := itT c42 H
  refine cSet (i := 90) rfl (vT c42) ?_
  refine cT rfl ?_
  refine cSeq (fun K8 hK8 => ?_)
  refine cRgn [] trivial ?_
  refine sL (asg rfl) rfl ?_
  refine lE ?_
  refine kN (?_)
  refine hK8 _ _ ?_
  refine cRet ?_
  obtain rfl := Option.some.inj H
  refine kR (?_)
  refine ret1 rfl rfl ?_
  have HF7 := HF6.sublist (sl_dc sR)
  exact ⟨rfl, HF7⟩
 replace H := itF c42 H
 refine cSet (i := 90) rfl (vF c42) ?_
 refine cF rfl ?_
 refine cSkip ?_
 refine kN (?_)
 refine hK6 _ _ ?_
 refine cSeq (fun K9 hK9 => ?_)
 refine cSeq (fun K10 hK10 => ?_)
 refine cRgn [] trivial ?_
 refine sL (asg rfl) rfl ?_
 refine lE ?_
 refine kN (?_)
 refine hK10 _ _ ?_
 replace H := bnd H; obtain ⟨y3, J17, Ho3⟩ := H
 refine cLoopB (f_plenumref1_RightLsa.b0 a0) (fun (s3 : Int) a w => Env 180 [(1, .pointer (some ⟨g1, 0, none⟩)), (2, .bool false), (4, .int .i64 s3)] a ∧ Fits z w (bk g1 44 [.int .i64 a0.f_Head.f_Age, .int .i64 a0.f_Head.f_Kind, .int .i64 a0.f_Head.f_Id, .int .i64 a0.f_Head.f_Adv, .int .i64 a0.f_Head.f_Seq, .int .i64 a0.f_Head.f_Sum, .int .i64 a0.f_Head.f_Len, .int .i64 a0.f_Flags, .slice A_a0_8 a0.f_Links.length c_a0_8, .int .i64 a0.f_Bits, .slice A_a0_10 a0.f_Routers.length c_a0_10, .slice A_a0_11 a0.f_Verts.length c_a0_11] :: F)) J17 (fun a hE => ⟨hE.keep (Keep.cons rfl (Keep.cons rfl (Keep.cons rfl (Keep.nil)))), HF6⟩) ?_ ?_
 ·rintro s3 a w14 y4 ⟨hE, HF16⟩ H Hx1
  refine go_ hE ?_
  refine cSeq (fun K33 hK33 => ?_)
  refine cSeq (fun K34 hK34 => ?_)
  refine cRgn [] trivial ?_
  refine sL (mv rfl) rfl ?_
  refine sL (fa44_2 rfl) rfl ?_
  refine sL (ld rfl Try.underlying42 rfl (HF16.box (mem_h) rfl)) rfl ?_
  refine sL (lnS rfl Try.underlying42) rfl ?_
  refine sL (bLss rfl rfl) rfl ?_
  refine lE ?_
  refine kN (?_)
  refine hK34 _ _ ?_
  by_cases c58 : s3 < (a0.f_Links.length : Int)
  ·replace H := itT c58 H
   refine cSet (i := 95) rfl (dT c58) ?_
   refine cT rfl ?_
   refine cSkip ?_
   refine kN (?_)
   refine hK33 _ _ ?_
   refine cSeq (fun K35 hK35 => ?_)
   refine cBlock ?_
   refine cSeq (fun K36 hK36 => ?_)
   refine cRgn [] trivial ?_
   refine sL (fa44_2 rfl) rfl ?_
   refine sL (ld rfl Try.underlying42 rfl (HF16.box (mem_h) rfl)) rfl ?_
   refine sL (mv rfl) rfl ?_
   replace H := chk H; obtain ⟨c59, H⟩ := H
   obtain ⟨g6, o3, _, rfl, rfl, q3⟩ := RdS.at_ hr_a0_8 c59 c58
   refine sL (ia rfl rfl Try.underlying42 ti56 c59 c58) rfl ?_
   refine sL (ldA rfl ti56 rfl rfl (fun j v hj => HF16.cells ((sub_c hX_a0_8)) (q3 j v hj))) rfl ?_
   refine eW (oAlloc HF16 ti56) rfl ?_
   rintro _ w15 ⟨g7, rfl, HF17⟩
   refine eS (oSt (l1 := [.int .i64 ((rd a0.f_Links s3).f_Kind), .int .i64 ((rd a0.f_Links s3).f_Id), .int .i64 ((rd a0.f_Links s3).f_Data), .int .i64 ((rd a0.f_Links s3).f_Cost)]) HF17 rfl rfl ti56 rfl (ones rfl) (Nat.le_of_ble_eq_true rfl) rfl) ?_
   rintro w16 HF18
   refine lE ?_
   refine kN (?_)
   refine hK36 _ _ ?_
   refine cSeq (fun K37 hK37 => ?_)
   refine cRgn [(3, 106), (8, 111), (14, 117), (20, 123), (25, 128)] ⟨rfl, rfl, rfl, rfl, rfl, trivial⟩ ?_
   refine sL (fa56_0 rfl) rfl ?_
   refine sL (ld rfl Try.underlying3 rfl (HF18.box (mem_h) rfl)) rfl ?_
   refine sL (bLss rfl rfl) rfl ?_
   refine sL (mv rfl) rfl ?_
   by_cases c60 : ((rd a0.f_Links s3).f_Kind) < 1
   ·replace H := itT c60 H
    refine lSet (i := 106) rfl (dT c60) ?_
    refine sN rfl rfl rfl rfl ?_
    refine sN rfl rfl rfl rfl ?_
    refine sN rfl rfl rfl rfl ?_
    refine sL (pkT rfl rfl) rfl ?_
    refine sL (mv rfl) rfl ?_
    refine sN rfl rfl rfl rfl ?_
    refine sN rfl rfl rfl rfl ?_
    refine sN rfl rfl rfl rfl ?_
    refine sN rfl rfl rfl rfl ?_
    refine sL (pkT rfl rfl) rfl ?_
    refine sL (mv rfl) rfl ?_
    refine sN rfl rfl rfl rfl ?_
    refine sN rfl rfl rfl rfl ?_
    refine sN rfl rfl rfl rfl ?_
    refine sN rfl rfl rfl rfl ?_
    refine sL (pkT rfl rfl) rfl ?_
    refine sL (mv rfl) rfl ?_
    refine sN rfl rfl rfl rfl ?_
    refine sN rfl rfl rfl rfl ?_
    refine sN rfl rfl rfl rfl ?_
    refine sL (pkT rfl rfl) rfl ?_
    refine sL (mv rfl) rfl ?_
    refine sN rfl rfl rfl rfl ?_
    refine sN rfl rfl rfl rfl ?_
    refine sN rfl rfl rfl rfl ?_
    refine sL (pkT rfl rfl) rfl ?_
    refine lE ?_
    refine kN (?_)
    refine hK37 _ _ ?_
    refine cT rfl ?_
    refine cSeq (fun K38 hK38 => ?_)
    refine cRgn [] trivial ?_
    refine sL (asg rfl) rfl ?_
    refine lE ?_
    refine kN (?_)
    refine hK38 _ _ ?_
    refine cRet ?_
    have e_ := Hx1 _ (Option.some.inj H).symm
    subst e_
    replace H := Ho3
    obtain rfl := Option.some.inj H
    refine jR (kR (kR (jR (kR (kR (?_))))))
    refine ret1 rfl rfl ?_
    have HF19 := HF18.sublist (sl_dc (sl_dc sR))
    exact ⟨rfl, HF19⟩
   replace H := itF c60 H
   refine lSet (i := 106) rfl (dF c60) ?_
   refine sG rfl rfl (fa56_0 rfl) rfl ?_
   refine sG rfl rfl (ld rfl Try.underlying3 rfl (HF18.box (mem_h) rfl)) rfl ?_
   refine sG rfl rfl (bGtr rfl rfl) rfl ?_
   refine sL (pkF rfl rfl) rfl ?_
   refine sL (mv rfl) rfl ?_
   by_cases c61 : 3 < ((rd a0.f_Links s3).f_Kind)
   ·replace H := itT c61 H
    refine lSet (i := 111) rfl (dT c61) ?_
    refine sN rfl rfl rfl rfl ?_
    refine sN rfl rfl rfl rfl ?_
    refine sN rfl rfl rfl rfl ?_
    refine sN rfl rfl rfl rfl ?_
    refine sL (pkT rfl rfl) rfl ?_
    refine sL (mv rfl) rfl ?_
    refine sN rfl rfl rfl rfl ?_
    refine sN rfl rfl rfl rfl ?_
    refine sN rfl rfl rfl rfl ?_
    refine sN rfl rfl rfl rfl ?_
    refine sL (pkT rfl rfl) rfl ?_
    refine sL (mv rfl) rfl ?_
    refine sN rfl rfl rfl rfl ?_
    refine sN rfl rfl rfl rfl ?_
    refine sN rfl rfl rfl rfl ?_
    refine sL (pkT rfl rfl) rfl ?_
    refine sL (mv rfl) rfl ?_
    refine sN rfl rfl rfl rfl ?_
    refine sN rfl rfl rfl rfl ?_
    refine sN rfl rfl rfl rfl ?_
    refine sL (pkT rfl rfl) rfl ?_
    refine lE ?_
    refine kN (?_)
    refine hK37 _ _ ?_
    refine cT rfl ?_
    refine cSeq (fun K39 hK39 => ?_)
    refine cRgn [] trivial ?_
    refine sL (asg rfl) rfl ?_
    refine lE ?_
    refine kN (?_)
    refine hK39 _ _ ?_
    refine cRet ?_
    have e_ := Hx1 _ (Option.some.inj H).symm
    subst e_
    replace H := Ho3
    obtain rfl := Option.some.inj H
    refine jR (kR (kR (jR (kR (kR (?_))))))
    refine ret1 rfl rfl ?_
    have HF20 := HF18.sublist (sl_dc (sl_dc sR))
    exact ⟨rfl, HF20⟩
   replace H := itF c61 H
   refine lSet (i := 111) rfl (dF c61) ?_
   refine sG rfl rfl (fa56_1 rfl) rfl ?_
   refine sG rfl rfl (ld rfl Try.underlying3 rfl (HF18.box (mem_h) rfl)) rfl ?_
   replace H := bnd H; obtain ⟨t7, J7, H⟩ := H
   refine eCallG rfl rfl isf55 rfl rfl rfl (f_plenumref1_Right.ok J7 HF18) ?_
   rintro _ w17 ⟨rfl, HF21⟩
   refine ⟨_, rfl, ?_⟩
   refine sG rfl rfl (uNot rfl) rfl ?_
   refine sL (pkF rfl rfl) rfl ?_
   refine sL (mv rfl) rfl ?_
   by_cases c62 : t7 = true
   ·replace H := itT c62 H
    refine lSet (i := 117) rfl (wF c62) ?_
    refine sG rfl rfl (fa56_2 rfl) rfl ?_
    refine sG rfl rfl (ld rfl Try.underlying3 rfl (HF21.box (mem_h) rfl)) rfl ?_
    replace H := bnd H; obtain ⟨t8, J8, H⟩ := H
    refine eCallG rfl rfl isf55 rfl rfl rfl (f_plenumref1_Right.ok J8 HF21) ?_
    rintro _ w18 ⟨rfl, HF22⟩
    refine ⟨_, rfl, ?_⟩
    refine sG rfl rfl (uNot rfl) rfl ?_
    refine sL (pkF rfl rfl) rfl ?_
    refine sL (mv rfl) rfl ?_
    by_cases c63 : t8 = true
    ·replace H := itT c63 H
     refine lSet (i := 123) rfl (wF c63) ?_
     refine sG rfl rfl (fa56_3 rfl) rfl ?_
     refine sG rfl rfl (ld rfl Try.underlying3 rfl (HF22.box (mem_h) rfl)) rfl ?_
     refine sG rfl rfl (bLss rfl rfl) rfl ?_
     refine sL (pkF rfl rfl) rfl ?_
     refine sL (mv rfl) rfl ?_
     by_cases c64 : ((rd a0.f_Links s3).f_Cost) < 0
     ·replace H := itT c64 H
      refine lSet (i := 128) rfl (dT c64) ?_
      refine sN rfl rfl rfl rfl ?_
      refine sN rfl rfl rfl rfl ?_
      refine sN rfl rfl rfl rfl ?_
      refine sL (pkT rfl rfl) rfl ?_
      refine lE ?_
      refine kN (?_)
      refine hK37 _ _ ?_
      refine cT rfl ?_
      refine cSeq (fun K40 hK40 => ?_)
      refine cRgn [] trivial ?_
      refine sL (asg rfl) rfl ?_
      refine lE ?_
      refine kN (?_)
      refine hK40 _ _ ?_
      refine cRet ?_
      have e_ := Hx1 _ (Option.some.inj H).symm
      subst e_
      replace H := Ho3
      obtain rfl := Option.some.inj H
      refine jR (kR (kR (jR (kR (kR (?_))))))
      refine ret1 rfl rfl ?_
      have HF23 := HF22.sublist (sl_dc (sl_dc sR))
      exact ⟨rfl, HF23⟩
     replace H := itF c64 H
     refine lSet (i := 128) rfl (dF c64) ?_
     refine sG rfl rfl (fa56_3 rfl) rfl ?_
     refine sG rfl rfl (ld rfl Try.underlying3 rfl (HF22.box (mem_h) rfl)) rfl ?_
     refine sG rfl rfl (bGtr rfl rfl) rfl ?_
     refine sL (pkF rfl rfl) rfl ?_
     refine lE ?_
     refine kN (?_)
     refine hK37 _ _ ?_
     by_cases c65 : 65535 < ((rd a0.f_Links s3).f_Cost)
     ·replace H := itT c65 H
      refine cSet (i := 132) rfl (dT c65) ?_
      refine cT rfl ?_
      refine cSeq (fun K41 hK41 => ?_)
      refine cRgn [] trivial ?_
      refine sL (asg rfl) rfl ?_
      refine lE ?_
      refine kN (?_)
      refine hK41 _ _ ?_
      refine cRet ?_
      have e_ := Hx1 _ (Option.some.inj H).symm
      subst e_
      replace H := Ho3
      obtain rfl := Option.some.inj H
      refine jR (kR (kR (jR (kR (kR (?_))))))
      refine ret1 rfl rfl ?_
      have HF24 := HF22.sublist (sl_dc (sl_dc sR))
      exact ⟨rfl, HF24⟩
     replace H := itF c65 H
     refine cSet (i := 132) rfl (dF c65) ?_
     refine cF rfl ?_
     refine cSkip ?_
     refine jN (kN (?_))
     refine hK35 _ _ ?_
     refine cRgn [] trivial ?_
     refine sL (mv rfl) rfl ?_
     refine sL (bAdd rfl rfl) rfl ?_
     refine sL (asg rfl) rfl ?_
     refine lE ?_
     refine kN (?_)
     have HF25 := HF22.sublist (sl_dc (sl_c sR))
     exact ofEnv (fun a hE => ⟨_, (Option.some.inj H).symm, ⟨hE.keep (Keep.cons rfl (Keep.cons rfl (Keep.cons rfl (Keep.nil)))), HF25⟩⟩)
    replace H := itF c63 H
    refine lSet (i := 123) rfl (wT c63) ?_
    refine sN rfl rfl rfl rfl ?_
    refine sN rfl rfl rfl rfl ?_
    refine sN rfl rfl rfl rfl ?_
    refine sL (pkT rfl rfl) rfl ?_
    refine sL (mv rfl) rfl ?_
    refine sN rfl rfl rfl rfl ?_
    refine sN rfl rfl rfl rfl ?_
    refine sN rfl rfl rfl rfl ?_
    refine sL (pkT rfl rfl) rfl ?_
    refine lE ?_
    refine kN (?_)
    refine hK37 _ _ ?_
    refine cT rfl ?_
    refine cSeq (fun K42 hK42 => ?_)
    refine cRgn [] trivial ?_
    refine sL (asg rfl) rfl ?_
    refine lE ?_
    refine kN (?_)
    refine hK42 _ _ ?_
    refine cRet ?_
    have e_ := Hx1 _ (Option.some.inj H).symm
    subst e_
    replace H := Ho3
    obtain rfl := Option.some.inj H
    refine jR (kR (kR (jR (kR (kR (?_))))))
    refine ret1 rfl rfl ?_
    have HF26 := HF22.sublist (sl_dc (sl_dc sR))
    exact ⟨rfl, HF26⟩
   replace H := itF c62 H
   refine lSet (i := 117) rfl (wT c62) ?_
   refine sN rfl rfl rfl rfl ?_
   refine sN rfl rfl rfl rfl ?_
   refine sN rfl rfl rfl rfl ?_
   refine sN rfl rfl rfl rfl ?_
   refine sL (pkT rfl rfl) rfl ?_
   refine sL (mv rfl) rfl ?_
   refine sN rfl rfl rfl rfl ?_
   refine sN rfl rfl rfl rfl ?_
   refine sN rfl rfl rfl rfl ?_
   refine sL (pkT rfl rfl) rfl ?_
   refine sL (mv rfl) rfl ?_
   refine sN rfl rfl rfl rfl ?_
   refine sN rfl rfl rfl rfl ?_
   refine sN rfl rfl rfl rfl ?_
   refine sL (pkT rfl rfl) rfl ?_
   refine lE ?_
   refine kN (?_)
   refine hK37 _ _ ?_
   refine cT rfl ?_
   refine cSeq (fun K43 hK43 => ?_)
   refine cRgn [] trivial ?_
   refine sL (asg rfl) rfl ?_
   refine lE ?_
   refine kN (?_)
   refine hK43 _ _ ?_
   refine cRet ?_
   have e_ := Hx1 _ (Option.some.inj H).symm
   subst e_
   replace H := Ho3
   obtain rfl := Option.some.inj H
   refine jR (kR (kR (jR (kR (kR (?_))))))
   refine ret1 rfl rfl ?_
   have HF27 := HF21.sublist (sl_dc (sl_dc sR))
   exact ⟨rfl, HF27⟩
  replace H := itF c58 H
  refine cSet (i := 95) rfl (dF c58) ?_
  refine cF rfl ?_
  refine cExit ?_
  refine kX (kX (jX (kN (?_))))
  exact ofEnv (fun a hE => ⟨_, (Option.some.inj H).symm, ⟨hE.keep (Keep.cons rfl (Keep.cons rfl (Keep.cons rfl (Keep.nil)))), HF16⟩⟩)
 rintro s3 a w19 rfl ⟨hE, HF28⟩
 replace H := Ho3
 refine go_k hE ?_
 refine kN (?_)
 refine hK9 _ _ ?_
 refine cSeq (fun K44 hK44 => ?_)
 refine cSeq (fun K45 hK45 => ?_)
 refine cRgn [] trivial ?_
 refine sL (asg rfl) rfl ?_
 refine lE ?_
 refine kN (?_)
 refine hK45 _ _ ?_
 replace H := bnd H; obtain ⟨y5, J16, Ho4⟩ := H
 refine cLoopB (f_plenumref1_RightLsa.b1 a0) (fun (s4 : Int) a w => Env 180 [(1, .pointer (some ⟨g1, 0, none⟩)), (2, .bool false), (6, .int .i64 s4)] a ∧ Fits z w (bk g1 44 [.int .i64 a0.f_Head.f_Age, .int .i64 a0.f_Head.f_Kind, .int .i64 a0.f_Head.f_Id, .int .i64 a0.f_Head.f_Adv, .int .i64 a0.f_Head.f_Seq, .int .i64 a0.f_Head.f_Sum, .int .i64 a0.f_Head.f_Len, .int .i64 a0.f_Flags, .slice A_a0_8 a0.f_Links.length c_a0_8, .int .i64 a0.f_Bits, .slice A_a0_10 a0.f_Routers.length c_a0_10, .slice A_a0_11 a0.f_Verts.length c_a0_11] :: F)) J16 (fun a hE => ⟨hE.keep (Keep.cons rfl (Keep.cons rfl (Keep.cons rfl (Keep.nil)))), HF28⟩) ?_ ?_
 ·rintro s4 a w22 y6 ⟨hE, HF31⟩ H Hx2
  refine go_ hE ?_
  refine cSeq (fun K56 hK56 => ?_)
  refine cSeq (fun K57 hK57 => ?_)
  refine cRgn [] trivial ?_
  refine sL (mv rfl) rfl ?_
  refine sL (fa44_4 rfl) rfl ?_
  refine sL (ld rfl Try.underlying30 rfl (HF31.box (mem_h) rfl)) rfl ?_
  refine sL (lnS rfl Try.underlying30) rfl ?_
  refine sL (bLss rfl rfl) rfl ?_
  refine lE ?_
  refine kN (?_)
  refine hK57 _ _ ?_
  by_cases c71 : s4 < (a0.f_Routers.length : Int)
  ·replace H := itT c71 H
   refine cSet (i := 137) rfl (dT c71) ?_
   refine cT rfl ?_
   refine cSkip ?_
   refine kN (?_)
   refine hK56 _ _ ?_
   refine cSeq (fun K58 hK58 => ?_)
   refine cBlock ?_
   refine cSeq (fun K59 hK59 => ?_)
   refine cRgn [] trivial ?_
   refine sL (fa44_4 rfl) rfl ?_
   refine sL (ld rfl Try.underlying30 rfl (HF31.box (mem_h) rfl)) rfl ?_
   refine sL (mv rfl) rfl ?_
   replace H := chk H; obtain ⟨c72, H⟩ := H
   obtain ⟨g10, o6, _, rfl, rfl, q6⟩ := RdS.at_ hr_a0_10 c72 c71
   refine sL (ia rfl rfl Try.underlying30 ti3 c72 c71) rfl ?_
   refine sL (ld rfl Try.underlying3 rfl (HF31.cells ((sub_c hX_a0_10)) (q6 0 _ rfl))) rfl ?_
   replace H := bnd H; obtain ⟨t11, J11, H⟩ := H
   refine eCall isf55 rfl rfl rfl (f_plenumref1_Right.ok J11 HF31) ?_
   rintro _ w23 ⟨rfl, HF32⟩
   refine ⟨_, rfl, ?_⟩
   refine sL (uNot rfl) rfl ?_
   refine lE ?_
   refine kN (?_)
   refine hK59 _ _ ?_
   by_cases c73 : t11 = true
   ·replace H := itT c73 H
    refine cSet (i := 146) rfl (wF c73) ?_
    refine cF rfl ?_
    refine cSkip ?_
    refine jN (kN (?_))
    refine hK58 _ _ ?_
    refine cRgn [] trivial ?_
    refine sL (mv rfl) rfl ?_
    refine sL (bAdd rfl rfl) rfl ?_
    refine sL (asg rfl) rfl ?_
    refine lE ?_
    refine kN (?_)
    exact ofEnv (fun a hE => ⟨_, (Option.some.inj H).symm, ⟨hE.keep (Keep.cons rfl (Keep.cons rfl (Keep.cons rfl (Keep.nil)))), HF32⟩⟩)
   replace H := itF c73 H
   refine cSet (i := 146) rfl (wT c73) ?_
   refine cT rfl ?_
   refine cSeq (fun K60 hK60 => ?_)
   refine cRgn [] trivial ?_
   refine sL (asg rfl) rfl ?_
   refine lE ?_
   refine kN (?_)
   refine hK60 _ _ ?_
   refine cRet ?_
   have e_ := Hx2 _ (Option.some.inj H).symm
   subst e_
   replace H := Ho4
   obtain rfl := Option.some.inj H
   refine jR (kR (kR (jR (kR (kR (?_))))))
   refine ret1 rfl rfl ?_
   have HF33 := HF32.sublist (sl_dc sR)
   exact ⟨rfl, HF33⟩
  replace H := itF c71 H
  refine cSet (i := 137) rfl (dF c71) ?_
  refine cF rfl ?_
  refine cExit ?_
  refine kX (kX (jX (kN (?_))))
  exact ofEnv (fun a hE => ⟨_, (Option.some.inj H).symm, ⟨hE.keep (Keep.cons rfl (Keep.cons rfl (Keep.cons rfl (Keep.nil)))), HF31⟩⟩)
 rintro s4 a w24 rfl ⟨hE, HF34⟩
 replace H := Ho4
 refine go_k hE ?_
 refine kN (?_)
 refine hK44 _ _ ?_
 refine cSeq (fun K61 hK61 => ?_)
 refine cSeq (fun K62 hK62 => ?_)
 refine cRgn [] trivial ?_
 refine sL (asg rfl) rfl ?_
 refine lE ?_
 refine kN (?_)
 refine hK62 _ _ ?_
 replace H := bnd H; obtain ⟨y7, J15, Ho5⟩ := H
 refine cLoopB (f_plenumref1_RightLsa.b2 a0) (fun (s5 : Int) a w => Env 180 [(1, .pointer (some ⟨g1, 0, none⟩)), (2, .bool false), (7, .int .i64 s5)] a ∧ Fits z w (bk g1 44 [.int .i64 a0.f_Head.f_Age, .int .i64 a0.f_Head.f_Kind, .int .i64 a0.f_Head.f_Id, .int .i64 a0.f_Head.f_Adv, .int .i64 a0.f_Head.f_Seq, .int .i64 a0.f_Head.f_Sum, .int .i64 a0.f_Head.f_Len, .int .i64 a0.f_Flags, .slice A_a0_8 a0.f_Links.length c_a0_8, .int .i64 a0.f_Bits, .slice A_a0_10 a0.f_Routers.length c_a0_10, .slice A_a0_11 a0.f_Verts.length c_a0_11] :: F)) J15 (fun a hE => ⟨hE.keep (Keep.cons rfl (Keep.cons rfl (Keep.cons rfl (Keep.nil)))), HF34⟩) ?_ ?_
 ·rintro s5 a w27 y8 ⟨hE, HF37⟩ H Hx3
  refine go_ hE ?_
  refine cSeq (fun K77 hK77 => ?_)
  refine cSeq (fun K78 hK78 => ?_)
  refine cRgn [] trivial ?_
  refine sL (mv rfl) rfl ?_
  refine sL (fa44_5 rfl) rfl ?_
  refine sL (ld rfl Try.underlying26 rfl (HF37.box (mem_h) rfl)) rfl ?_
  refine sL (lnS rfl Try.underlying26) rfl ?_
  refine sL (bLss rfl rfl) rfl ?_
  refine lE ?_
  refine kN (?_)
  refine hK78 _ _ ?_
  by_cases c83 : s5 < (a0.f_Verts.length : Int)
  ·replace H := itT c83 H
   refine cSet (i := 151) rfl (dT c83) ?_
   refine cT rfl ?_
   refine cSkip ?_
   refine kN (?_)
   refine hK77 _ _ ?_
   refine cSeq (fun K79 hK79 => ?_)
   refine cBlock ?_
   refine cSeq (fun K80 hK80 => ?_)
   refine cRgn [(7, 161), (16, 170)] ⟨rfl, rfl, trivial⟩ ?_
   refine sL (fa44_5 rfl) rfl ?_
   refine sL (ld rfl Try.underlying26 rfl (HF37.box (mem_h) rfl)) rfl ?_
   refine sL (mv rfl) rfl ?_
   replace H := chk H; obtain ⟨c84, H⟩ := H
   obtain ⟨g13, o9, _, rfl, rfl, q13⟩ := RdS.at_ hr_a0_11 c84 c83
   refine sL (ia rfl rfl Try.underlying26 ti35 c84 c83) rfl ?_
   refine sL (fa35_0 rfl) rfl ?_
   refine sL (ld rfl Try.underlying3 rfl (HF37.cells ((sub_c hX_a0_11)) (q13 0 _ rfl))) rfl ?_
   refine sL (bLss rfl rfl) rfl ?_
   refine sL (mv rfl) rfl ?_
   by_cases c85 : ((rd a0.f_Verts s5).f_Kind) < 1
   ·replace H := itT c85 H
    refine lSet (i := 161) rfl (dT c85) ?_
    refine sN rfl rfl rfl rfl ?_
    refine sN rfl rfl rfl rfl ?_
    refine sN rfl rfl rfl rfl ?_
    refine sN rfl rfl rfl rfl ?_
    refine sN rfl rfl rfl rfl ?_
    refine sN rfl rfl rfl rfl ?_
    refine sN rfl rfl rfl rfl ?_
    refine sL (pkT rfl rfl) rfl ?_
    refine sL (mv rfl) rfl ?_
    refine sN rfl rfl rfl rfl ?_
    refine sN rfl rfl rfl rfl ?_
    refine sN rfl rfl rfl rfl ?_
    refine sN rfl rfl rfl rfl ?_
    refine sN rfl rfl rfl rfl ?_
    refine sN rfl rfl rfl rfl ?_
    refine sN rfl rfl rfl rfl ?_
    refine sN rfl rfl rfl rfl ?_
    refine sL (pkT rfl rfl) rfl ?_
    refine lE ?_
    refine kN (?_)
    refine hK80 _ _ ?_
    refine cT rfl ?_
    refine cSeq (fun K81 hK81 => ?_)
    refine cRgn [] trivial ?_
    refine sL (asg rfl) rfl ?_
    refine lE ?_
    refine kN (?_)
    refine hK81 _ _ ?_
    refine cRet ?_
    have e_ := Hx3 _ (Option.some.inj H).symm
    subst e_
    replace H := Ho5
    obtain rfl := Option.some.inj H
    refine jR (kR (kR (jR (kR (kR (?_))))))
    refine ret1 rfl rfl ?_
    have HF38 := HF37.sublist (sl_dc sR)
    exact ⟨rfl, HF38⟩
   replace H := itF c85 H
   refine lSet (i := 161) rfl (dF c85) ?_
   refine sG rfl rfl (fa44_5 rfl) rfl ?_
   refine sG rfl rfl (ld rfl Try.underlying26 rfl (HF37.box (mem_h) rfl)) rfl ?_
   refine sG rfl rfl (mv rfl) rfl ?_
   obtain ⟨_, rfl, q14⟩ := RdS.at' hr_a0_11 c84 c83
   refine sG rfl rfl (ia rfl rfl Try.underlying26 ti35 c84 c83) rfl ?_
   refine sG rfl rfl (fa35_0 rfl) rfl ?_
   refine sG rfl rfl (ld rfl Try.underlying3 rfl (HF37.cells ((sub_c hX_a0_11)) (q14 0 _ rfl))) rfl ?_
   refine sG rfl rfl (bGtr rfl rfl) rfl ?_
   refine sL (pkF rfl rfl) rfl ?_
   refine sL (mv rfl) rfl ?_
   by_cases c86 : 2 < ((rd a0.f_Verts s5).f_Kind)
   ·replace H := itT c86 H
    refine lSet (i := 170) rfl (dT c86) ?_
    refine sN rfl rfl rfl rfl ?_
    refine sN rfl rfl rfl rfl ?_
    refine sN rfl rfl rfl rfl ?_
    refine sN rfl rfl rfl rfl ?_
    refine sN rfl rfl rfl rfl ?_
    refine sN rfl rfl rfl rfl ?_
    refine sN rfl rfl rfl rfl ?_
    refine sN rfl rfl rfl rfl ?_
    refine sL (pkT rfl rfl) rfl ?_
    refine lE ?_
    refine kN (?_)
    refine hK80 _ _ ?_
    refine cT rfl ?_
    refine cSeq (fun K82 hK82 => ?_)
    refine cRgn [] trivial ?_
    refine sL (asg rfl) rfl ?_
    refine lE ?_
    refine kN (?_)
    refine hK82 _ _ ?_
    refine cRet ?_
    have e_ := Hx3 _ (Option.some.inj H).symm
    subst e_
    replace H := Ho5
    obtain rfl := Option.some.inj H
    refine jR (kR (kR (jR (kR (kR (?_))))))
    refine ret1 rfl rfl ?_
    have HF39 := HF37.sublist (sl_dc sR)
    exact ⟨rfl, HF39⟩
   replace H := itF c86 H
   refine lSet (i := 170) rfl (dF c86) ?_
   refine sG rfl rfl (fa44_5 rfl) rfl ?_
   refine sG rfl rfl (ld rfl Try.underlying26 rfl (HF37.box (mem_h) rfl)) rfl ?_
   refine sG rfl rfl (mv rfl) rfl ?_
   obtain ⟨_, rfl, q15⟩ := RdS.at' hr_a0_11 c84 c83
   refine sG rfl rfl (ia rfl rfl Try.underlying26 ti35 c84 c83) rfl ?_
   refine sG rfl rfl (fa35_1 rfl) rfl ?_
   refine sG rfl rfl (ld rfl Try.underlying3 rfl (HF37.cells ((sub_c hX_a0_11)) (q15 1 _ rfl))) rfl ?_
   replace H := bnd H; obtain ⟨t14, J14, H⟩ := H
   refine eCallG rfl rfl isf55 rfl rfl rfl (f_plenumref1_Right.ok J14 HF37) ?_
   rintro _ w28 ⟨rfl, HF40⟩
   refine ⟨_, rfl, ?_⟩
   refine sG rfl rfl (uNot rfl) rfl ?_
   refine sL (pkF rfl rfl) rfl ?_
   refine lE ?_
   refine kN (?_)
   refine hK80 _ _ ?_
   by_cases c87 : t14 = true
   ·replace H := itT c87 H
    refine cSet (i := 179) rfl (wF c87) ?_
    refine cF rfl ?_
    refine cSkip ?_
    refine jN (kN (?_))
    refine hK79 _ _ ?_
    refine cRgn [] trivial ?_
    refine sL (mv rfl) rfl ?_
    refine sL (bAdd rfl rfl) rfl ?_
    refine sL (asg rfl) rfl ?_
    refine lE ?_
    refine kN (?_)
    exact ofEnv (fun a hE => ⟨_, (Option.some.inj H).symm, ⟨hE.keep (Keep.cons rfl (Keep.cons rfl (Keep.cons rfl (Keep.nil)))), HF40⟩⟩)
   replace H := itF c87 H
   refine cSet (i := 179) rfl (wT c87) ?_
   refine cT rfl ?_
   refine cSeq (fun K83 hK83 => ?_)
   refine cRgn [] trivial ?_
   refine sL (asg rfl) rfl ?_
   refine lE ?_
   refine kN (?_)
   refine hK83 _ _ ?_
   refine cRet ?_
   have e_ := Hx3 _ (Option.some.inj H).symm
   subst e_
   replace H := Ho5
   obtain rfl := Option.some.inj H
   refine jR (kR (kR (jR (kR (kR (?_))))))
   refine ret1 rfl rfl ?_
   have HF41 := HF40.sublist (sl_dc sR)
   exact ⟨rfl, HF41⟩
  replace H := itF c83 H
  refine cSet (i := 151) rfl (dF c83) ?_
  refine cF rfl ?_
  refine cExit ?_
  refine kX (kX (jX (kN (?_))))
  exact ofEnv (fun a hE => ⟨_, (Option.some.inj H).symm, ⟨hE.keep (Keep.cons rfl (Keep.cons rfl (Keep.cons rfl (Keep.nil)))), HF37⟩⟩)
 rintro s5 a w29 rfl ⟨hE, HF42⟩
 replace H := Ho5
 refine go_k hE ?_
 refine kN (?_)
 refine hK61 _ _ ?_
 refine cSeq (fun K84 hK84 => ?_)
 refine cRgn [] trivial ?_
 refine sL (asg rfl) rfl ?_
 refine lE ?_
 refine kN (?_)
 refine hK84 _ _ ?_
 refine cRet ?_
 obtain rfl := Option.some.inj H
 refine ret1 rfl rfl ?_
 have HF43 := HF42.sublist (sl_dc sR)
 exact ⟨rfl, HF43⟩
/-! ### plenum/plenumref1.KeyOf (function 30) -/
abbrev f_plenumref1_KeyOf.R := T_api_Key
noncomputable def f_plenumref1_KeyOf (a0 : T_api_Head) : Option f_plenumref1_KeyOf.R := some (⟨a0.f_Kind, a0.f_Id, a0.f_Adv⟩ : T_api_Key)
set_option maxHeartbeats 1000000 in
theorem f_plenumref1_KeyOf.ok {z w : World} {F : Hp} {a0 : T_api_Head} {r : f_plenumref1_KeyOf.R} (H : f_plenumref1_KeyOf a0 = some r) (HF : Fits z w F) :
  Calls Try.prog 30 [.agg [.int .i64 a0.f_Age, .int .i64 a0.f_Kind, .int .i64 a0.f_Id, .int .i64 a0.f_Adv, .int .i64 a0.f_Seq, .int .i64 a0.f_Sum, .int .i64 a0.f_Len].toArray].toArray w fun e w' => e = .returned (.agg [.int .i64 r.f_Kind, .int .i64 r.f_Id, .int .i64 r.f_Adv].toArray) ∧ Fits z w' F := by
 unfold f_plenumref1_KeyOf at H
 refine enter0 Try.func30 rfl Try.ntmps30 rfl (E := [(0, .agg [.int .i64 a0.f_Age, .int .i64 a0.f_Kind, .int .i64 a0.f_Id, .int .i64 a0.f_Adv, .int .i64 a0.f_Seq, .int .i64 a0.f_Sum, .int .i64 a0.f_Len].toArray)]) rfl ?_
 refine cSeq (fun K1 hK1 => ?_)
 refine cRgn [] trivial ?_
 refine eW (oBox HF rfl) rfl ?_
 rintro _ w1 ⟨g1, rfl, HF1⟩
 refine eW (oAlloc HF1 ti78) rfl ?_
 rintro _ w2 ⟨g2, rfl, HF2⟩
 refine lE ?_
 refine kN (?_)
 refine hK1 _ _ ?_
 refine cSeq (fun K2 hK2 => ?_)
 refine cRgn [] trivial ?_
 refine sL (fa41_1 rfl) rfl ?_
 refine sL (ld rfl Try.underlying3 rfl (HF2.box (mem_c mem_h) rfl)) rfl ?_
 refine sL (fa41_2 rfl) rfl ?_
 refine sL (ld rfl Try.underlying3 rfl (HF2.box (mem_c mem_h) rfl)) rfl ?_
 refine sL (fa41_3 rfl) rfl ?_
 refine sL (ld rfl Try.underlying3 rfl (HF2.box (mem_c mem_h) rfl)) rfl ?_
 refine sL (bd (r := [.int .i64 a0.f_Kind, .int .i64 a0.f_Id, .int .i64 a0.f_Adv]) pl78 ti78 rfl rfl) rfl ?_
 refine eS (oSt (l1 := [.int .i64 a0.f_Kind, .int .i64 a0.f_Id, .int .i64 a0.f_Adv]) HF2 rfl rfl ti78 rfl (ones rfl) (Nat.le_of_ble_eq_true rfl) rfl) ?_
 rintro w3 HF3
 refine lE ?_
 refine kN (?_)
 refine hK2 _ _ ?_
 refine cRet ?_
 obtain rfl := Option.some.inj H
 refine retA rfl (rvC rfl (lvA (cs := [.int .i64 a0.f_Kind, .int .i64 a0.f_Id, .int .i64 a0.f_Adv]) ti78 rfl rfl (HF3.boxes (o := 0) (n := 3) (mem_h) rfl))) ?_
 have HF4 := HF3.sublist (sl_dc (sl_dc sR))
 exact ⟨rfl, HF4⟩
/-! ### plenum/plenumlaw17.Right (function 13) -/
abbrev f_plenumlaw17_Right.R := Bool
noncomputable def f_plenumlaw17_Right.b0 (a0 : List T_api_Lsa) (s5 : Int) (s7 : Int) : Option (Sum (Int) (Sum (Int) f_plenumlaw17_Right.R)) := (if s7 < s5 then (if 0 ≤ s7 then (if s7 < (a0.length : Int) then (if 0 ≤ s5 then (if s5 < (a0.length : Int) then ((f_plenumref1_KeyOf (⟨(rd a0 s7).f_Head.f_Age, (rd a0 s7).f_Head.f_Kind, (rd a0 s7).f_Head.f_Id, (rd a0 s7).f_Head.f_Adv, (rd a0 s7).f_Head.f_Seq, (rd a0 s7).f_Head.f_Sum, (rd a0 s7).f_Head.f_Len⟩ : T_api_Head)).bind fun t35 => ((f_plenumref1_KeyOf (⟨(rd a0 s5).f_Head.f_Age, (rd a0 s5).f_Head.f_Kind, (rd a0 s5).f_Head.f_Id, (rd a0 s5).f_Head.f_Adv, (rd a0 s5).f_Head.f_Seq, (rd a0 s5).f_Head.f_Sum, (rd a0 s5).f_Head.f_Len⟩ : T_api_Head)).bind fun t36 => (if t35 = t36 then some (.inr (.inr false)) else some (.inl (IntKind.i64.wrap (s7 + 1)))))) else none) else none) else none) else none) else some (.inr (.inl s7)))
noncomputable def f_plenumlaw17_Right.b1 (a0 : List T_api_Lsa) (s5 : Int) : Option (Sum (Int) (Sum (Int) f_plenumlaw17_Right.R)) := (if s5 < (a0.length : Int) then ((((if 0 ≤ s5 then ((f_plenumlaw5_Great (rd a0 s5)).bind fun t23 => (if t23 = true then some (.inl true) else ((f_plenumref1_RightLsa (rd a0 s5)).bind fun t24 => some (.inl (!t24))))) else none) : Option (Sum (Bool) f_plenumlaw17_Right.R))).bind fun y9 => match y9 with | .inl s6 => (if s6 = true then some (.inr (.inr false)) else ((loopO (f_plenumlaw17_Right.b0 a0 s5) 0).bind fun y10 => match y10 with | .inl s7 => some (.inl (IntKind.i64.wrap (s5 + 1))) | .inr r_ => some (.inr (.inr r_)))) | .inr r_ => some (.inr (.inr r_))) else some (.inr (.inl s5)))
noncomputable def f_plenumlaw17_Right (a0 : List T_api_Lsa) : Option f_plenumlaw17_Right.R := (if 40 < (a0.length : Int) then some false else ((loopO (f_plenumlaw17_Right.b1 a0) 0).bind fun y7 => match y7 with | .inl s5 => some true | .inr r_ => some r_))
set_option maxHeartbeats 1000000 in
theorem f_plenumlaw17_Right.ok {z w : World} {F G : Hp} (hG : G ⊆ F) {a0 : List T_api_Lsa} {A_a0 : Option Addr} {c_a0 : Nat} {X_a0 : Hp} {r : f_plenumlaw17_Right.R} (H : f_plenumlaw17_Right a0 = some r) (HF : Fits z w F) (hX_a0 : X_a0 ⊆ F) (hr_a0 : RdS (kShr G k_T_api_Lsa) X_a0 A_a0 c_a0 a0) :
  Calls Try.prog 13 [.slice A_a0 a0.length c_a0].toArray w fun e w' => e = .returned (.bool r) ∧ Fits z w' F := by
 unfold f_plenumlaw17_Right at H
 refine enter0 Try.func13 rfl Try.ntmps13 rfl (E := [(0, .slice A_a0 a0.length c_a0)]) rfl ?_
 refine cSeq (fun K1 hK1 => ?_)
 refine cRgn [] trivial ?_
 refine sL (asg rfl) rfl ?_
 refine lE ?_
 refine kN (?_)
 refine hK1 _ _ ?_
 refine cSeq (fun K2 hK2 => ?_)
 refine cSeq (fun K3 hK3 => ?_)
 refine cRgn [] trivial ?_
 refine sL (mv rfl) rfl ?_
 refine sL (lnS rfl Try.underlying24) rfl ?_
 refine sL (bGtr rfl rfl) rfl ?_
 refine lE ?_
 refine kN (?_)
 refine hK3 _ _ ?_
 by_cases c1 : 40 < (a0.length : Int)
 ·replace H := itT c1 H
  refine cSet (i := 7) rfl (dT c1) ?_
  refine cT rfl ?_
  refine cSeq (fun K4 hK4 => ?_)
  refine cRgn [] trivial ?_
  refine sL (asg rfl) rfl ?_
  refine lE ?_
  refine kN (?_)
  refine hK4 _ _ ?_
  refine cRet ?_
  obtain rfl := Option.some.inj H
  refine kR (?_)
  refine ret1 rfl rfl ?_
  exact ⟨rfl, HF⟩
 replace H := itF c1 H
 refine cSet (i := 7) rfl (dF c1) ?_
 refine cF rfl ?_
 refine cSkip ?_
 refine kN (?_)
 refine hK2 _ _ ?_
 refine cSeq (fun K5 hK5 => ?_)
 refine cSeq (fun K6 hK6 => ?_)
 refine cRgn [] trivial ?_
 refine sL (asg rfl) rfl ?_
 refine lE ?_
 refine kN (?_)
 refine hK6 _ _ ?_
 replace H := bnd H; obtain ⟨y7, J40, Ho5⟩ := H
 refine cLoopB (f_plenumlaw17_Right.b1 a0) (fun (s5 : Int) a w => Env 45 [(0, .slice A_a0 a0.length c_a0), (2, .bool false), (3, .int .i64 s5)] a ∧ Fits z w F) J40 (fun a hE => ⟨hE.keep (Keep.cons rfl (Keep.cons rfl (Keep.cons rfl (Keep.nil)))), HF⟩) ?_ ?_
 ·rintro s5 a w30 y8 ⟨hE, HF30⟩ H Hx3
  refine go_ hE ?_
  refine cSeq (fun K40 hK40 => ?_)
  refine cSeq (fun K41 hK41 => ?_)
  refine cRgn [] trivial ?_
  refine sL (mv rfl) rfl ?_
  refine sL (mv rfl) rfl ?_
  refine sL (lnS rfl Try.underlying24) rfl ?_
  refine sL (bLss rfl rfl) rfl ?_
  refine lE ?_
  refine kN (?_)
  refine hK41 _ _ ?_
  by_cases c96 : s5 < (a0.length : Int)
  ·replace H := itT c96 H
   refine cSet (i := 11) rfl (dT c96) ?_
   refine cT rfl ?_
   refine cSkip ?_
   refine kN (?_)
   refine hK40 _ _ ?_
   refine cSeq (fun K42 hK42 => ?_)
   refine cBlock ?_
   refine cSeq (fun K43 hK43 => ?_)
   refine cSeq (fun K44 hK44 => ?_)
   replace H := bnd H; obtain ⟨y9, H, Ho6⟩ := H
   refine cJoin (y := y9) (fun (s6 : Bool) a w => Env 45 [(0, .slice A_a0 a0.length c_a0), (2, .bool false), (3, .int .i64 s5), (26, .bool s6)] a ∧ Fits z w F) ?_ ?_
   ·refine cRgn [(5, 19)] ⟨rfl, trivial⟩ ?_
    refine sL (mv rfl) rfl ?_
    refine sL (mv rfl) rfl ?_
    replace H := chk H; obtain ⟨c105, H⟩ := H
    obtain ⟨g12, o12, e46, rfl, hk23, q23⟩ := RdS.at_ hr_a0 c105 c96
    obtain ⟨A67, c106, A68, c107, A69, c108, rfl, hr67, hr68, hr69⟩ := rd_T_api_Lsa hk23
    refine sL (ia rfl rfl Try.underlying24 ti44 c105 c96) rfl ?_
    refine sL (ldA rfl ti44 rfl rfl (fun j v hj => HF30.cells (hX_a0) (q23 j v hj))) rfl ?_
    replace H := bnd H; obtain ⟨t23, J25, H⟩ := H
    refine eCall isf28 rfl rfl rfl (f_plenumlaw5_Great.ok (a0 := (rd a0 s5)) hG J25 HF30 hG hr67 hG hr68 hG hr69) ?_
    rintro _ w33 ⟨rfl, HF33⟩
    refine ⟨_, rfl, ?_⟩
    refine sL (mv rfl) rfl ?_
    by_cases c109 : t23 = true
    ·replace H := itT c109 H
     refine lSet (i := 19) rfl (vT c109) ?_
     refine sN rfl rfl rfl rfl ?_
     refine sN rfl rfl rfl rfl ?_
     refine sN rfl rfl rfl rfl ?_
     refine sN rfl rfl rfl rfl ?_
     refine sN rfl rfl rfl rfl ?_
     refine sN rfl rfl rfl rfl ?_
     refine sL (pkT rfl rfl) rfl ?_
     refine lE ?_
     refine kN (?_)
     exact ofEnv (fun a hE => ⟨_, (Option.some.inj H).symm, ⟨hE.keep (Keep.cons rfl (Keep.cons rfl (Keep.cons rfl (Keep.cons rfl (Keep.nil))))), HF33⟩⟩)
    replace H := itF c109 H
    refine lSet (i := 19) rfl (vF c109) ?_
    refine sG rfl rfl (mv rfl) rfl ?_
    refine sG rfl rfl (mv rfl) rfl ?_
    obtain ⟨e48, hk24, q24⟩ := RdS.at' hr_a0 c105 c96
    obtain ⟨A70, c110, A71, c111, A72, c112, rfl, hr70, hr71, hr72⟩ := rd_T_api_Lsa hk24
    refine sG rfl rfl (ia rfl rfl Try.underlying24 ti44 c105 c96) rfl ?_
    refine sG rfl rfl (ldA rfl ti44 rfl rfl (fun j v hj => HF33.cells (hX_a0) (q24 j v hj))) rfl ?_
    replace H := bnd H; obtain ⟨t24, J26, H⟩ := H
    refine eCallG rfl rfl isf29 rfl rfl rfl (f_plenumref1_RightLsa.ok (a0 := (rd a0 s5)) hG J26 HF33 hG hr70 hG hr71 hG hr72) ?_
    rintro _ w34 ⟨rfl, HF34⟩
    refine ⟨_, rfl, ?_⟩
    refine sG rfl rfl (uNot rfl) rfl ?_
    refine sL (pkF rfl rfl) rfl ?_
    refine lE ?_
    refine kN (?_)
    exact ofEnv (fun a hE => ⟨_, (Option.some.inj H).symm, ⟨hE.keep (Keep.cons rfl (Keep.cons rfl (Keep.cons rfl (Keep.cons rfl (Keep.nil))))), HF34⟩⟩)
   rintro s6 a w35 rfl ⟨hE, HF35⟩
   replace H := Ho6
   refine go_k hE ?_
   refine kN (?_)
   refine hK44 _ _ ?_
   by_cases c113 : s6 = true
   ·replace H := itT c113 H
    refine cSet (i := 26) rfl (vT c113) ?_
    refine cT rfl ?_
    refine cSeq (fun K45 hK45 => ?_)
    refine cRgn [] trivial ?_
    refine sL (asg rfl) rfl ?_
    refine lE ?_
    refine kN (?_)
    refine hK45 _ _ ?_
    refine cRet ?_
    have e_ := Hx3 _ (Option.some.inj H).symm
    subst e_
    replace H := Ho5
    obtain rfl := Option.some.inj H
    refine kR (jR (kR (kR (jR (kR (kR (?_)))))))
    refine ret1 rfl rfl ?_
    exact ⟨rfl, HF35⟩
   replace H := itF c113 H
   refine cSet (i := 26) rfl (vF c113) ?_
   refine cF rfl ?_
   refine cSkip ?_
   refine kN (?_)
   refine hK43 _ _ ?_
   refine cSeq (fun K46 hK46 => ?_)
   refine cRgn [] trivial ?_
   refine sL (asg rfl) rfl ?_
   refine lE ?_
   refine kN (?_)
   refine hK46 _ _ ?_
   replace H := bnd H; obtain ⟨y10, J39, Ho7⟩ := H
   refine cLoopB (f_plenumlaw17_Right.b0 a0 s5) (fun (s7 : Int) a w => Env 45 [(0, .slice A_a0 a0.length c_a0), (2, .bool false), (3, .int .i64 s5), (4, .int .i64 s7)] a ∧ Fits z w F) J39 (fun a hE => ⟨hE.keep (Keep.cons rfl (Keep.cons rfl (Keep.cons rfl (Keep.cons rfl (Keep.nil))))), HF35⟩) ?_ ?_
   ·rintro s7 a w46 y11 ⟨hE, HF46⟩ H Hx4
    refine go_ hE ?_
    refine cSeq (fun K57 hK57 => ?_)
    refine cSeq (fun K58 hK58 => ?_)
    refine cRgn [] trivial ?_
    refine sL (mv rfl) rfl ?_
    refine sL (mv rfl) rfl ?_
    refine sL (bLss rfl rfl) rfl ?_
    refine lE ?_
    refine kN (?_)
    refine hK58 _ _ ?_
    by_cases c156 : s7 < s5
    ·replace H := itT c156 H
     refine cSet (i := 29) rfl (dT c156) ?_
     refine cT rfl ?_
     refine cSkip ?_
     refine kN (?_)
     refine hK57 _ _ ?_
     refine cSeq (fun K59 hK59 => ?_)
     refine cBlock ?_
     refine cSeq (fun K60 hK60 => ?_)
     refine cDraw mo_ HF46 rfl (fun w => Fits z w F) (fun w49 HF49 => ?_)
     refine hT 0 rfl (by kernel_rfl) (fun w_ hS_ => mv rfl) HF49 rfl rfl ?_
     refine hT 1 rfl (by kernel_rfl) (fun w_ hS_ => mv rfl) HF49 rfl rfl ?_
     replace H := chk H; obtain ⟨c167, H⟩ := H
     replace H := chk H; obtain ⟨c168, H⟩ := H
     obtain ⟨g18, o18, e70, rfl, hk35, q35⟩ := RdS.at_ hr_a0 c167 c168
     obtain ⟨A103, c169, A104, c170, A105, c171, rfl, hr103, hr104, hr105⟩ := rd_T_api_Lsa hk35
     refine hT 2 rfl (by kernel_rfl) (fun w_ hS_ => ia rfl rfl Try.underlying24 ti44 c167 c168) HF49 rfl rfl ?_
     refine hT 3 rfl (by kernel_rfl) (fun w_ hS_ => fa44_0 rfl) HF49 rfl rfl ?_
     refine hT 4 rfl (by kernel_rfl) (fun w_ hS_ => ldA (cs := [.int .i64 ((rd a0 s7).f_Head.f_Age), .int .i64 ((rd a0 s7).f_Head.f_Kind), .int .i64 ((rd a0 s7).f_Head.f_Id), .int .i64 ((rd a0 s7).f_Head.f_Adv), .int .i64 ((rd a0 s7).f_Head.f_Seq), .int .i64 ((rd a0 s7).f_Head.f_Sum), .int .i64 ((rd a0 s7).f_Head.f_Len)]) rfl ti41 rfl rfl (fun j v hj => hS_.cells (hX_a0) (el_part q35 (off := 0) (n := 7) rfl j v hj))) HF49 rfl rfl ?_
     refine hT 6 rfl (by kernel_rfl) (fun w_ hS_ => mv rfl) HF49 rfl rfl ?_
     refine hT 7 rfl (by kernel_rfl) (fun w_ hS_ => mv rfl) HF49 rfl rfl ?_
     replace H := chk H; obtain ⟨c172, H⟩ := H
     replace H := chk H; obtain ⟨c173, H⟩ := H
     obtain ⟨e72, hk36, q36⟩ := RdS.at' hr_a0 c172 c173
     obtain ⟨A106, c174, A107, c175, A108, c176, rfl, hr106, hr107, hr108⟩ := rd_T_api_Lsa hk36
     refine hT 8 rfl (by kernel_rfl) (fun w_ hS_ => ia rfl rfl Try.underlying24 ti44 c172 c173) HF49 rfl rfl ?_
     refine hT 9 rfl (by kernel_rfl) (fun w_ hS_ => fa44_0 rfl) HF49 rfl rfl ?_
     refine hT 10 rfl (by kernel_rfl) (fun w_ hS_ => ldA (cs := [.int .i64 ((rd a0 s5).f_Head.f_Age), .int .i64 ((rd a0 s5).f_Head.f_Kind), .int .i64 ((rd a0 s5).f_Head.f_Id), .int .i64 ((rd a0 s5).f_Head.f_Adv), .int .i64 ((rd a0 s5).f_Head.f_Seq), .int .i64 ((rd a0 s5).f_Head.f_Sum), .int .i64 ((rd a0 s5).f_Head.f_Len)]) rfl ti41 rfl rfl (fun j v hj => hS_.cells (hX_a0) (el_part q36 (off := 0) (n := 7) rfl j v hj))) HF49 rfl rfl ?_
     refine h1 5 (by kernel_rfl) rfl ?_
     replace H := bnd H; obtain ⟨t35, J37, H⟩ := H
     refine qCall rfl gd0 isf30 rfl rfl rfl (f_plenumref1_KeyOf.ok (a0 := (⟨(rd a0 s7).f_Head.f_Age, (rd a0 s7).f_Head.f_Kind, (rd a0 s7).f_Head.f_Id, (rd a0 s7).f_Head.f_Adv, (rd a0 s7).f_Head.f_Seq, (rd a0 s7).f_Head.f_Sum, (rd a0 s7).f_Head.f_Len⟩ : T_api_Head)) J37 HF49) ?_
     rintro _ w50 ⟨rfl, HF50⟩
     refine ⟨_, rfl, HF50, ?_⟩
     refine h1 11 (by kernel_rfl) rfl ?_
     replace H := bnd H; obtain ⟨t36, J38, H⟩ := H
     refine qCall rfl gd0 isf30 rfl rfl rfl (f_plenumref1_KeyOf.ok (a0 := (⟨(rd a0 s5).f_Head.f_Age, (rd a0 s5).f_Head.f_Kind, (rd a0 s5).f_Head.f_Id, (rd a0 s5).f_Head.f_Adv, (rd a0 s5).f_Head.f_Seq, (rd a0 s5).f_Head.f_Sum, (rd a0 s5).f_Head.f_Len⟩ : T_api_Head)) J38 HF50) ?_
     rintro _ w51 ⟨rfl, HF51⟩
     refine ⟨_, rfl, HF51, ?_⟩
     refine hT 12 rfl (by kernel_rfl) (fun w_ hS_ => bAggEql (xs := [.int .i64 t35.f_Kind, .int .i64 t35.f_Id, .int .i64 t35.f_Adv]) (ys := [.int .i64 t36.f_Kind, .int .i64 t36.f_Id, .int .i64 t36.f_Adv]) (n := 2) rfl rfl eg78 (eqStruct Try.underlying78 sh78 (eqFcons (by decide) (pt1 Try.underlying3 rfl rfl) (pt1 Try.underlying3 rfl rfl) (eqInt Try.underlying3) (eqFcons (by decide) (pt1 Try.underlying3 rfl rfl) (pt1 Try.underlying3 rfl rfl) (eqInt Try.underlying3) (eqFcons (by decide) (pt1 Try.underlying3 rfl rfl) (pt1 Try.underlying3 rfl rfl) (eqInt Try.underlying3) eqFnil)))) rfl (eq_T_api_Key t35 t36)) HF51 rfl rfl ?_
     refine hEnd (by kernel_rfl) ?_
     refine kN (?_)
     refine hK60 _ _ ?_
     by_cases c177 : t35 = t36
     ·replace H := itT c177 H
      refine cSet (i := 44) rfl (dT c177) ?_
      refine cT rfl ?_
      refine cSeq (fun K61 hK61 => ?_)
      refine cRgn [] trivial ?_
      refine sL (asg rfl) rfl ?_
      refine lE ?_
      refine kN (?_)
      refine hK61 _ _ ?_
      refine cRet ?_
      have e_ := Hx4 _ (Option.some.inj H).symm
      subst e_
      replace H := Ho7
      have e_ := Hx3 _ (Option.some.inj H).symm
      subst e_
      replace H := Ho5
      obtain rfl := Option.some.inj H
      refine jR (kR (kR (jR (kR (jR (kR (kR (jR (kR (kR (?_)))))))))))
      refine ret1 rfl rfl ?_
      exact ⟨rfl, HF51⟩
     replace H := itF c177 H
     refine cSet (i := 44) rfl (dF c177) ?_
     refine cF rfl ?_
     refine cSkip ?_
     refine jN (kN (?_))
     refine hK59 _ _ ?_
     refine cRgn [] trivial ?_
     refine sL (mv rfl) rfl ?_
     refine sL (bAdd rfl rfl) rfl ?_
     refine sL (asg rfl) rfl ?_
     refine lE ?_
     refine kN (?_)
     exact ofEnv (fun a hE => ⟨_, (Option.some.inj H).symm, ⟨hE.keep (Keep.cons rfl (Keep.cons rfl (Keep.cons rfl (Keep.cons rfl (Keep.nil))))), HF51⟩⟩)
    replace H := itF c156 H
    refine cSet (i := 29) rfl (dF c156) ?_
    refine cF rfl ?_
    refine cExit ?_
    refine kX (kX (jX (kN (?_))))
    exact ofEnv (fun a hE => ⟨_, (Option.some.inj H).symm, ⟨hE.keep (Keep.cons rfl (Keep.cons rfl (Keep.cons rfl (Keep.cons rfl (Keep.nil))))), HF46⟩⟩)
   rintro s7 a w52 rfl ⟨hE, HF52⟩
   replace H := Ho7
   refine go_k hE ?_
   refine jN (kN (?_))
   refine hK42 _ _ ?_
   refine cRgn [] trivial ?_
   refine sL (mv rfl) rfl ?_
   refine sL (bAdd rfl rfl) rfl ?_
   refine sL (asg rfl) rfl ?_
   refine lE ?_
   refine kN (?_)
   exact ofEnv (fun a hE => ⟨_, (Option.some.inj H).symm, ⟨hE.keep (Keep.cons rfl (Keep.cons rfl (Keep.cons rfl (Keep.nil)))), HF52⟩⟩)
  replace H := itF c96 H
  refine cSet (i := 11) rfl (dF c96) ?_
  refine cF rfl ?_
  refine cExit ?_
  refine kX (kX (jX (kN (?_))))
  exact ofEnv (fun a hE => ⟨_, (Option.some.inj H).symm, ⟨hE.keep (Keep.cons rfl (Keep.cons rfl (Keep.cons rfl (Keep.nil)))), HF30⟩⟩)
 rintro s5 a w53 rfl ⟨hE, HF53⟩
 replace H := Ho5
 refine go_k hE ?_
 refine kN (?_)
 refine hK5 _ _ ?_
 refine cSeq (fun K62 hK62 => ?_)
 refine cRgn [] trivial ?_
 refine sL (asg rfl) rfl ?_
 refine lE ?_
 refine kN (?_)
 refine hK62 _ _ ?_
 refine cRet ?_
 obtain rfl := Option.some.inj H
 refine ret1 rfl rfl ?_
 exact ⟨rfl, HF53⟩
/-! ### cmp.isNaN[int] (function 60) -/
abbrev f_cmp_isNaN_int.R := Bool
noncomputable def f_cmp_isNaN_int (a0 : Int) : Option f_cmp_isNaN_int.R := some (!decide (a0 = a0))
set_option maxHeartbeats 1000000 in
theorem f_cmp_isNaN_int.ok {z w : World} {F : Hp} {a0 : Int} {r : f_cmp_isNaN_int.R} (H : f_cmp_isNaN_int a0 = some r) (HF : Fits z w F) :
  Calls Try.prog 60 [.int .i64 a0].toArray w fun e w' => e = .returned (.bool r) ∧ Fits z w' F := by
 unfold f_cmp_isNaN_int at H
 refine enter0 Try.func60 rfl Try.ntmps60 rfl (E := [(0, .int .i64 a0)]) rfl ?_
 refine cSeq (fun K1 hK1 => ?_)
 refine cRgn [] trivial ?_
 refine sL (asg rfl) rfl ?_
 refine lE ?_
 refine kN (?_)
 refine hK1 _ _ ?_
 refine cSeq (fun K2 hK2 => ?_)
 refine cRgn [] trivial ?_
 refine sL (mv rfl) rfl ?_
 refine sL (mv rfl) rfl ?_
 refine sL (bNeq rfl rfl) rfl ?_
 refine sL (asg rfl) rfl ?_
 refine lE ?_
 refine kN (?_)
 refine hK2 _ _ ?_
 refine cRet ?_
 obtain rfl := Option.some.inj H
 refine ret1 rfl rfl ?_
 exact ⟨rfl, HF⟩
/-! ### cmp.Compare[int] (function 41) -/
abbrev f_cmp_Compare_int.R := Int
noncomputable def f_cmp_Compare_int (a0 : Int) (a1 : Int) : Option f_cmp_Compare_int.R := ((f_cmp_isNaN_int a0).bind fun t1 => ((f_cmp_isNaN_int a1).bind fun t2 => (if t1 = true then (if t2 = true then some 0 else some (-1)) else (if t2 = true then some 1 else (if a0 < a1 then some (-1) else (if a1 < a0 then some 1 else some 0))))))
set_option maxHeartbeats 1000000 in
theorem f_cmp_Compare_int.ok {z w : World} {F : Hp} {a0 : Int} {a1 : Int} {r : f_cmp_Compare_int.R} (H : f_cmp_Compare_int a0 a1 = some r) (HF : Fits z w F) :
  Calls Try.prog 41 [.int .i64 a0, .int .i64 a1].toArray w fun e w' => e = .returned (.int .i64 r) ∧ Fits z w' F := by
 unfold f_cmp_Compare_int at H
 refine enter0 Try.func41 rfl Try.ntmps41 rfl (E := [(0, .int .i64 a0), (1, .int .i64 a1)]) rfl ?_
 refine cSeq (fun K1 hK1 => ?_)
 refine cRgn [] trivial ?_
 refine sL (asg rfl) rfl ?_
 refine lE ?_
 refine kN (?_)
 refine hK1 _ _ ?_
 refine cSeq (fun K2 hK2 => ?_)
 refine cRgn [] trivial ?_
 refine sL (mv rfl) rfl ?_
 replace H := bnd H; obtain ⟨t1, J1, H⟩ := H
 refine eCall isf60 rfl rfl rfl (f_cmp_isNaN_int.ok J1 HF) ?_
 rintro _ w1 ⟨rfl, HF1⟩
 refine ⟨_, rfl, ?_⟩
 refine sL (asg rfl) rfl ?_
 refine lE ?_
 refine kN (?_)
 refine hK2 _ _ ?_
 refine cSeq (fun K3 hK3 => ?_)
 refine cRgn [] trivial ?_
 refine sL (mv rfl) rfl ?_
 replace H := bnd H; obtain ⟨t2, J2, H⟩ := H
 refine eCall isf60 rfl rfl rfl (f_cmp_isNaN_int.ok J2 HF1) ?_
 rintro _ w2 ⟨rfl, HF2⟩
 refine ⟨_, rfl, ?_⟩
 refine sL (asg rfl) rfl ?_
 refine lE ?_
 refine kN (?_)
 refine hK3 _ _ ?_
 refine cSeq (fun K4 hK4 => ?_)
 refine cSeq (fun K5 hK5 => ?_)
 refine cRgn [] trivial ?_
 refine sL (mv rfl) rfl ?_
 refine lE ?_
 refine kN (?_)
 refine hK5 _ _ ?_
 by_cases c1 : t1 = true
 ·replace H := itT c1 H
  refine cSet (i := 11) rfl (vT c1) ?_
  refine cT rfl ?_
  refine cSeq (fun K6 hK6 => ?_)
  refine cSeq (fun K7 hK7 => ?_)
  refine cRgn [] trivial ?_
  refine sL (mv rfl) rfl ?_
  refine lE ?_
  refine kN (?_)
  refine hK7 _ _ ?_
  by_cases c2 : t2 = true
  ·replace H := itT c2 H
   refine cSet (i := 12) rfl (vT c2) ?_
   refine cT rfl ?_
   refine cSeq (fun K8 hK8 => ?_)
   refine cRgn [] trivial ?_
   refine sL (asg rfl) rfl ?_
   refine lE ?_
   refine kN (?_)
   refine hK8 _ _ ?_
   refine cRet ?_
   obtain rfl := Option.some.inj H
   refine kR (kR (?_))
   refine ret1 rfl rfl ?_
   exact ⟨rfl, HF2⟩
  replace H := itF c2 H
  refine cSet (i := 12) rfl (vF c2) ?_
  refine cF rfl ?_
  refine cSkip ?_
  refine kN (?_)
  refine hK6 _ _ ?_
  refine cSeq (fun K9 hK9 => ?_)
  refine cRgn [] trivial ?_
  refine sL (asg rfl) rfl ?_
  refine lE ?_
  refine kN (?_)
  refine hK9 _ _ ?_
  refine cRet ?_
  obtain rfl := Option.some.inj H
  refine kR (?_)
  refine ret1 rfl rfl ?_
  exact ⟨rfl, HF2⟩
 replace H := itF c1 H
 refine cSet (i := 11) rfl (vF c1) ?_
 refine cF rfl ?_
 refine cSkip ?_
 refine kN (?_)
 refine hK4 _ _ ?_
 refine cSeq (fun K10 hK10 => ?_)
 refine cSeq (fun K11 hK11 => ?_)
 refine cRgn [] trivial ?_
 refine sL (mv rfl) rfl ?_
 refine lE ?_
 refine kN (?_)
 refine hK11 _ _ ?_
 by_cases c3 : t2 = true
 ·replace H := itT c3 H
  refine cSet (i := 13) rfl (vT c3) ?_
  refine cT rfl ?_
  refine cSeq (fun K12 hK12 => ?_)
  refine cRgn [] trivial ?_
  refine sL (asg rfl) rfl ?_
  refine lE ?_
  refine kN (?_)
  refine hK12 _ _ ?_
  refine cRet ?_
  obtain rfl := Option.some.inj H
  refine kR (?_)
  refine ret1 rfl rfl ?_
  exact ⟨rfl, HF2⟩
 replace H := itF c3 H
 refine cSet (i := 13) rfl (vF c3) ?_
 refine cF rfl ?_
 refine cSkip ?_
 refine kN (?_)
 refine hK10 _ _ ?_
 refine cSeq (fun K13 hK13 => ?_)
 refine cSeq (fun K14 hK14 => ?_)
 refine cRgn [] trivial ?_
 refine sL (mv rfl) rfl ?_
 refine sL (mv rfl) rfl ?_
 refine sL (bLss rfl rfl) rfl ?_
 refine lE ?_
 refine kN (?_)
 refine hK14 _ _ ?_
 by_cases c4 : a0 < a1
 ·replace H := itT c4 H
  refine cSet (i := 16) rfl (dT c4) ?_
  refine cT rfl ?_
  refine cSeq (fun K15 hK15 => ?_)
  refine cRgn [] trivial ?_
  refine sL (asg rfl) rfl ?_
  refine lE ?_
  refine kN (?_)
  refine hK15 _ _ ?_
  refine cRet ?_
  obtain rfl := Option.some.inj H
  refine kR (?_)
  refine ret1 rfl rfl ?_
  exact ⟨rfl, HF2⟩
 replace H := itF c4 H
 refine cSet (i := 16) rfl (dF c4) ?_
 refine cF rfl ?_
 refine cSkip ?_
 refine kN (?_)
 refine hK13 _ _ ?_
 refine cSeq (fun K16 hK16 => ?_)
 refine cSeq (fun K17 hK17 => ?_)
 refine cRgn [] trivial ?_
 refine sL (mv rfl) rfl ?_
 refine sL (mv rfl) rfl ?_
 refine sL (bGtr rfl rfl) rfl ?_
 refine lE ?_
 refine kN (?_)
 refine hK17 _ _ ?_
 by_cases c5 : a1 < a0
 ·replace H := itT c5 H
  refine cSet (i := 19) rfl (dT c5) ?_
  refine cT rfl ?_
  refine cSeq (fun K18 hK18 => ?_)
  refine cRgn [] trivial ?_
  refine sL (asg rfl) rfl ?_
  refine lE ?_
  refine kN (?_)
  refine hK18 _ _ ?_
  refine cRet ?_
  obtain rfl := Option.some.inj H
  refine kR (?_)
  refine ret1 rfl rfl ?_
  exact ⟨rfl, HF2⟩
 replace H := itF c5 H
 refine cSet (i := 19) rfl (dF c5) ?_
 refine cF rfl ?_
 refine cSkip ?_
 refine kN (?_)
 refine hK16 _ _ ?_
 refine cSeq (fun K19 hK19 => ?_)
 refine cRgn [] trivial ?_
 refine sL (asg rfl) rfl ?_
 refine lE ?_
 refine kN (?_)
 refine hK19 _ _ ?_
 refine cRet ?_
 obtain rfl := Option.some.inj H
 refine ret1 rfl rfl ?_
 exact ⟨rfl, HF2⟩
/-! ### cmp.Or[int] (function 40) -/
abbrev f_cmp_Or_int.R := Int
noncomputable def f_cmp_Or_int.b0 (a0 : List Int) (s1 : Int) : Option (Sum (Int) (Sum (Int) f_cmp_Or_int.R)) := (if s1 < (a0.length : Int) then (if 0 ≤ s1 then (if (rd a0 s1) = 0 then some (.inl (IntKind.i64.wrap (s1 + 1))) else some (.inr (.inr (rd a0 s1)))) else none) else some (.inr (.inl s1)))
noncomputable def f_cmp_Or_int (a0 : List Int) : Option f_cmp_Or_int.R := ((loopO (f_cmp_Or_int.b0 a0) 0).bind fun y1 => match y1 with | .inl s1 => some 0 | .inr r_ => some r_)
set_option maxHeartbeats 1000000 in
theorem f_cmp_Or_int.ok {z w : World} {F G : Hp} (hG : G ⊆ F) {a0 : List Int} {A_a0 : Option Addr} {c_a0 : Nat} {X_a0 : Hp} {r : f_cmp_Or_int.R} (H : f_cmp_Or_int a0 = some r) (HF : Fits z w F) (hX_a0 : X_a0 ⊆ F) (hr_a0 : RdS (kInt .i64) X_a0 A_a0 c_a0 a0) :
  Calls Try.prog 40 [.slice A_a0 a0.length c_a0].toArray w fun e w' => e = .returned (.int .i64 r) ∧ Fits z w' F := by
 unfold f_cmp_Or_int at H
 refine enter0 Try.func40 rfl Try.ntmps40 rfl (E := [(0, .slice A_a0 a0.length c_a0)]) rfl ?_
 refine cSeq (fun K1 hK1 => ?_)
 refine cRgn [] trivial ?_
 refine sL (asg rfl) rfl ?_
 refine lE ?_
 refine kN (?_)
 refine hK1 _ _ ?_
 refine cSeq (fun K2 hK2 => ?_)
 refine cRgn [] trivial ?_
 refine sL (asg rfl) rfl ?_
 refine lE ?_
 refine kN (?_)
 refine hK2 _ _ ?_
 refine cSeq (fun K3 hK3 => ?_)
 refine cSeq (fun K4 hK4 => ?_)
 refine cRgn [] trivial ?_
 refine sL (mv rfl) rfl ?_
 refine sL (lnS rfl Try.underlying30) rfl ?_
 refine sL (mv rfl) rfl ?_
 refine lE ?_
 refine kN (?_)
 refine hK4 _ _ ?_
 replace H := bnd H; obtain ⟨y1, J1, Ho1⟩ := H
 refine cLoopB (f_cmp_Or_int.b0 a0) (fun (s1 : Int) a w => Env 18 [(2, .int .i64 0), (3, .int .i64 0), (6, .slice A_a0 a0.length c_a0), (7, .int .i64 (a0.length : Int)), (8, .int .i64 s1)] a ∧ Fits z w F) J1 (fun a hE => ⟨hE.keep (Keep.cons rfl (Keep.cons rfl (Keep.cons rfl (Keep.cons rfl (Keep.cons rfl (Keep.nil)))))), HF⟩) ?_ ?_
 ·rintro s1 a w1 y2 ⟨hE, HF1⟩ H Hx1
  refine go_ hE ?_
  refine cSeq (fun K17 hK17 => ?_)
  refine cRgn [] trivial ?_
  refine sL (bLss rfl rfl) rfl ?_
  refine lE ?_
  refine kN (?_)
  refine hK17 _ _ ?_
  refine cSeq (fun K18 hK18 => ?_)
  by_cases c6 : s1 < (a0.length : Int)
  ·replace H := itT c6 H
   refine cSet (i := 9) rfl (dT c6) ?_
   refine cT rfl ?_
   refine cSkip ?_
   refine kN (?_)
   refine hK18 _ _ ?_
   refine cSeq (fun K19 hK19 => ?_)
   refine cBlock ?_
   refine cSeq (fun K20 hK20 => ?_)
   refine cRgn [] trivial ?_
   replace H := chk H; obtain ⟨c7, H⟩ := H
   obtain ⟨g3, o3, _, rfl, rfl, q3⟩ := RdS.at_ hr_a0 c7 c6
   refine sL (ia rfl rfl Try.underlying30 ti3 c7 c6) rfl ?_
   refine sL (ld rfl Try.underlying3 rfl (HF1.cells (hX_a0) (q3 0 _ rfl))) rfl ?_
   refine sL (asg rfl) rfl ?_
   refine lE ?_
   refine kN (?_)
   refine hK20 _ _ ?_
   refine cSeq (fun K21 hK21 => ?_)
   refine cRgn [] trivial ?_
   refine sL (mv rfl) rfl ?_
   refine sL (mv rfl) rfl ?_
   refine sL (bNeq rfl rfl) rfl ?_
   refine lE ?_
   refine kN (?_)
   refine hK21 _ _ ?_
   by_cases c8 : (rd a0 s1) = 0
   ·replace H := itT c8 H
    refine cSet (i := 14) rfl (nF c8) ?_
    refine cF rfl ?_
    refine cSkip ?_
    refine jN (kN (?_))
    refine hK19 _ _ ?_
    refine cRgn [] trivial ?_
    refine sL (bAdd rfl rfl) rfl ?_
    refine sL (mv rfl) rfl ?_
    refine lE ?_
    refine kN (?_)
    exact ofEnv (fun a hE => ⟨_, (Option.some.inj H).symm, ⟨hE.keep (Keep.cons rfl (Keep.cons rfl (Keep.cons rfl (Keep.cons rfl (Keep.cons rfl (Keep.nil)))))), HF1⟩⟩)
   replace H := itF c8 H
   refine cSet (i := 14) rfl (nT c8) ?_
   refine cT rfl ?_
   refine cSeq (fun K22 hK22 => ?_)
   refine cRgn [] trivial ?_
   refine sL (mv rfl) rfl ?_
   refine sL (asg rfl) rfl ?_
   refine lE ?_
   refine kN (?_)
   refine hK22 _ _ ?_
   refine cRet ?_
   have e_ := Hx1 _ (Option.some.inj H).symm
   subst e_
   replace H := Ho1
   obtain rfl := Option.some.inj H
   refine jR (kR (kR (jR (kR (kR (?_))))))
   refine ret1 rfl rfl ?_
   exact ⟨rfl, HF1⟩
  replace H := itF c6 H
  refine cSet (i := 9) rfl (dF c6) ?_
  refine cF rfl ?_
  refine cExit ?_
  refine kX (kX (jX (kN (?_))))
  exact ofEnv (fun a hE => ⟨_, (Option.some.inj H).symm, ⟨hE.keep (Keep.cons rfl (Keep.cons rfl (Keep.cons rfl (Keep.cons rfl (Keep.cons rfl (Keep.nil)))))), HF1⟩⟩)
 rintro s1 a w2 rfl ⟨hE, HF2⟩
 replace H := Ho1
 refine go_k hE ?_
 refine kN (?_)
 refine hK3 _ _ ?_
 refine cSeq (fun K23 hK23 => ?_)
 refine cRgn [] trivial ?_
 refine sL (mv rfl) rfl ?_
 refine sL (asg rfl) rfl ?_
 refine lE ?_
 refine kN (?_)
 refine hK23 _ _ ?_
 refine cRet ?_
 obtain rfl := Option.some.inj H
 refine ret1 rfl rfl ?_
 exact ⟨rfl, HF2⟩
/-! ### plenum/topo.live$1 (function 49) -/
abbrev f_topo_live_1.R := Int
noncomputable def f_topo_live_1 (a0 : T_api_Lsa) (a1 : T_api_Lsa) : Option f_topo_live_1.R := ((f_cmp_Compare_int a0.f_Head.f_Id a1.f_Head.f_Id).bind fun t4 => ((f_cmp_Compare_int a0.f_Head.f_Adv a1.f_Head.f_Adv).bind fun t5 => ((f_cmp_Or_int ([t4, t5])).bind fun t6 => some t6)))
set_option maxHeartbeats 1000000 in
theorem f_topo_live_1.ok {z w : World} {F G : Hp} (hG : G ⊆ F) {a0 : T_api_Lsa} {A_a0_8 : Option Addr} {c_a0_8 : Nat} {X_a0_8 : Hp} {A_a0_10 : Option Addr} {c_a0_10 : Nat} {X_a0_10 : Hp} {A_a0_11 : Option Addr} {c_a0_11 : Nat} {X_a0_11 : Hp} {a1 : T_api_Lsa} {A_a1_8 : Option Addr} {c_a1_8 : Nat} {X_a1_8 : Hp} {A_a1_10 : Option Addr} {c_a1_10 : Nat} {X_a1_10 : Hp} {A_a1_11 : Option Addr} {c_a1_11 : Nat} {X_a1_11 : Hp} {r : f_topo_live_1.R} (H : f_topo_live_1 a0 a1 = some r) (HF : Fits z w F) (hX_a0_8 : X_a0_8 ⊆ F) (hr_a0_8 : RdS k_T_api_Link X_a0_8 A_a0_8 c_a0_8 a0.f_Links) (hX_a0_10 : X_a0_10 ⊆ F) (hr_a0_10 : RdS (kInt .i64) X_a0_10 A_a0_10 c_a0_10 a0.f_Routers) (hX_a0_11 : X_a0_11 ⊆ F) (hr_a0_11 : RdS k_T_api_Vert X_a0_11 A_a0_11 c_a0_11 a0.f_Verts) (hX_a1_8 : X_a1_8 ⊆ F) (hr_a1_8 : RdS k_T_api_Link X_a1_8 A_a1_8 c_a1_8 a1.f_Links) (hX_a1_10 : X_a1_10 ⊆ F) (hr_a1_10 : RdS (kInt .i64) X_a1_10 A_a1_10 c_a1_10 a1.f_Routers) (hX_a1_11 : X_a1_11 ⊆ F) (hr_a1_11 : RdS k_T_api_Vert X_a1_11 A_a1_11 c_a1_11 a1.f_Verts) :
  Calls Try.prog 49 [.agg [.int .i64 a0.f_Head.f_Age, .int .i64 a0.f_Head.f_Kind, .int .i64 a0.f_Head.f_Id, .int .i64 a0.f_Head.f_Adv, .int .i64 a0.f_Head.f_Seq, .int .i64 a0.f_Head.f_Sum, .int .i64 a0.f_Head.f_Len, .int .i64 a0.f_Flags, .slice A_a0_8 a0.f_Links.length c_a0_8, .int .i64 a0.f_Bits, .slice A_a0_10 a0.f_Routers.length c_a0_10, .slice A_a0_11 a0.f_Verts.length c_a0_11].toArray, .agg [.int .i64 a1.f_Head.f_Age, .int .i64 a1.f_Head.f_Kind, .int .i64 a1.f_Head.f_Id, .int .i64 a1.f_Head.f_Adv, .int .i64 a1.f_Head.f_Seq, .int .i64 a1.f_Head.f_Sum, .int .i64 a1.f_Head.f_Len, .int .i64 a1.f_Flags, .slice A_a1_8 a1.f_Links.length c_a1_8, .int .i64 a1.f_Bits, .slice A_a1_10 a1.f_Routers.length c_a1_10, .slice A_a1_11 a1.f_Verts.length c_a1_11].toArray].toArray w fun e w' => e = .returned (.int .i64 r) ∧ Fits z w' F := by
 unfold f_topo_live_1 at H
 refine enter0 Try.func49 rfl Try.ntmps49 rfl (E := [(0, .agg [.int .i64 a0.f_Head.f_Age, .int .i64 a0.f_Head.f_Kind, .int .i64 a0.f_Head.f_Id, .int .i64 a0.f_Head.f_Adv, .int .i64 a0.f_Head.f_Seq, .int .i64 a0.f_Head.f_Sum, .int .i64 a0.f_Head.f_Len, .int .i64 a0.f_Flags, .slice A_a0_8 a0.f_Links.length c_a0_8, .int .i64 a0.f_Bits, .slice A_a0_10 a0.f_Routers.length c_a0_10, .slice A_a0_11 a0.f_Verts.length c_a0_11].toArray), (1, .agg [.int .i64 a1.f_Head.f_Age, .int .i64 a1.f_Head.f_Kind, .int .i64 a1.f_Head.f_Id, .int .i64 a1.f_Head.f_Adv, .int .i64 a1.f_Head.f_Seq, .int .i64 a1.f_Head.f_Sum, .int .i64 a1.f_Head.f_Len, .int .i64 a1.f_Flags, .slice A_a1_8 a1.f_Links.length c_a1_8, .int .i64 a1.f_Bits, .slice A_a1_10 a1.f_Routers.length c_a1_10, .slice A_a1_11 a1.f_Verts.length c_a1_11].toArray)]) rfl ?_
 refine cSeq (fun K1 hK1 => ?_)
 refine cRgn [] trivial ?_
 refine eW (oBox HF rfl) rfl ?_
 rintro _ w1 ⟨g1, rfl, HF1⟩
 refine eW (oBox HF1 rfl) rfl ?_
 rintro _ w2 ⟨g2, rfl, HF2⟩
 refine sL (asg rfl) rfl ?_
 refine lE ?_
 refine kN (?_)
 refine hK1 _ _ ?_
 refine cSeq (fun K2 hK2 => ?_)
 refine cDraw mo_ HF2 rfl (fun w => Fits z w (bk g2 44 [.int .i64 a1.f_Head.f_Age, .int .i64 a1.f_Head.f_Kind, .int .i64 a1.f_Head.f_Id, .int .i64 a1.f_Head.f_Adv, .int .i64 a1.f_Head.f_Seq, .int .i64 a1.f_Head.f_Sum, .int .i64 a1.f_Head.f_Len, .int .i64 a1.f_Flags, .slice A_a1_8 a1.f_Links.length c_a1_8, .int .i64 a1.f_Bits, .slice A_a1_10 a1.f_Routers.length c_a1_10, .slice A_a1_11 a1.f_Verts.length c_a1_11] :: (bk g1 44 [.int .i64 a0.f_Head.f_Age, .int .i64 a0.f_Head.f_Kind, .int .i64 a0.f_Head.f_Id, .int .i64 a0.f_Head.f_Adv, .int .i64 a0.f_Head.f_Seq, .int .i64 a0.f_Head.f_Sum, .int .i64 a0.f_Head.f_Len, .int .i64 a0.f_Flags, .slice A_a0_8 a0.f_Links.length c_a0_8, .int .i64 a0.f_Bits, .slice A_a0_10 a0.f_Routers.length c_a0_10, .slice A_a0_11 a0.f_Verts.length c_a0_11] :: F))) (fun w7 HF9 => ?_)
 refine hT 0 rfl (by kernel_rfl) (fun w_ hS_ => fa44_0 rfl) HF9 rfl rfl ?_
 refine hT 1 rfl (by kernel_rfl) (fun w_ hS_ => fa41_2 rfl) HF9 rfl rfl ?_
 refine hT 2 rfl (by kernel_rfl) (fun w_ hS_ => ld rfl Try.underlying3 rfl (hS_.box (mem_c mem_h) rfl)) HF9 rfl rfl ?_
 refine hT 3 rfl (by kernel_rfl) (fun w_ hS_ => fa44_0 rfl) HF9 rfl rfl ?_
 refine hT 4 rfl (by kernel_rfl) (fun w_ hS_ => fa41_2 rfl) HF9 rfl rfl ?_
 refine hT 5 rfl (by kernel_rfl) (fun w_ hS_ => ld rfl Try.underlying3 rfl (hS_.box (mem_h) rfl)) HF9 rfl rfl ?_
 refine hT 7 rfl (by kernel_rfl) (fun w_ hS_ => fa44_0 rfl) HF9 rfl rfl ?_
 refine hT 8 rfl (by kernel_rfl) (fun w_ hS_ => fa41_3 rfl) HF9 rfl rfl ?_
 refine hT 9 rfl (by kernel_rfl) (fun w_ hS_ => ld rfl Try.underlying3 rfl (hS_.box (mem_c mem_h) rfl)) HF9 rfl rfl ?_
 refine hT 10 rfl (by kernel_rfl) (fun w_ hS_ => fa44_0 rfl) HF9 rfl rfl ?_
 refine hT 11 rfl (by kernel_rfl) (fun w_ hS_ => fa41_3 rfl) HF9 rfl rfl ?_
 refine hT 12 rfl (by kernel_rfl) (fun w_ hS_ => ld rfl Try.underlying3 rfl (hS_.box (mem_h) rfl)) HF9 rfl rfl ?_
 refine h1 6 (by kernel_rfl) rfl ?_
 replace H := bnd H; obtain ⟨t4, J4, H⟩ := H
 refine qCall rfl gd0 isf41 rfl rfl rfl (f_cmp_Compare_int.ok J4 HF9) ?_
 rintro _ w8 ⟨rfl, HF10⟩
 refine ⟨_, rfl, HF10, ?_⟩
 refine h1 13 (by kernel_rfl) rfl ?_
 replace H := bnd H; obtain ⟨t5, J5, H⟩ := H
 refine qCall rfl gd0 isf41 rfl rfl rfl (f_cmp_Compare_int.ok J5 HF10) ?_
 rintro _ w9 ⟨rfl, HF11⟩
 refine ⟨_, rfl, HF11, ?_⟩
 refine h1 14 (by kernel_rfl) rfl ?_
 refine qW rfl gd0 (oLit (r := [.int .i64 t4, .int .i64 t5]) (kInt .i64) [t4, t5] HF11 Try.underlying30 ti3 rfl rfl rfl rfl ⟨[], [], [.int .i64 t4], _, rfl, rfl, ⟨rfl, rfl⟩, ⟨[], [], [.int .i64 t5], _, rfl, rfl, ⟨rfl, rfl⟩, ⟨rfl, rfl⟩⟩⟩ rfl rfl) rfl ?_
 rintro _ w10 ⟨L2, A2, c2, rfl, HF12, ho2⟩
 have HF13 := HF12.sublist (sl_da (sl_c (sl_c sR)))
 refine ⟨HF13, ?_⟩
 refine h1 15 (by kernel_rfl) rfl ?_
 replace H := bnd H; obtain ⟨t6, J6, H⟩ := H
 refine qCall rfl gd0 isf40 rfl rfl rfl (f_cmp_Or_int.ok (a0 := [t4, t5]) (sub_a (sub_c (sub_c hG))) J6 HF12 sub_h ho2.rd) ?_
 rintro _ w11 ⟨rfl, HF14⟩
 have HF15 := HF14.sublist (sl_da (sl_c (sl_c sR)))
 refine ⟨_, rfl, HF15, ?_⟩
 refine hT 16 rfl (by kernel_rfl) (fun w_ hS_ => asg rfl) HF15 rfl rfl ?_
 refine hEnd (by kernel_rfl) ?_
 refine kN (?_)
 refine hK2 _ _ ?_
 refine cRet ?_
 obtain rfl := Option.some.inj H
 refine ret1 rfl rfl ?_
 have HF16 := HF14.sublist (sl_da (sl_dc (sl_dc sR)))
 exact ⟨rfl, HF16⟩
/-! ### slices.insertionSortCmpFunc[plenum/api.Lsa] (function 73) -/
abbrev f_slices_insertionSortCmpFunc_api_Lsa_fn49.R := List T_api_Lsa
noncomputable def f_slices_insertionSortCmpFunc_api_Lsa_fn49.b0 (a1 : Int) (s12 : Int × (List T_api_Lsa)) : Option (Sum (Int × (List T_api_Lsa)) (Sum (Int × (List T_api_Lsa)) f_slices_insertionSortCmpFunc_api_Lsa_fn49.R)) := ((((if a1 < s12.1 then (if 0 ≤ s12.1 then (if s12.1 < (s12.2.length : Int) then (if 0 ≤ (IntKind.i64.wrap (s12.1 - 1)) then (if (IntKind.i64.wrap (s12.1 - 1)) < (s12.2.length : Int) then ((f_topo_live_1 (rd s12.2 s12.1) (rd s12.2 (IntKind.i64.wrap (s12.1 - 1)))).bind fun t36 => some (.inl (decide (t36 < 0)))) else none) else none) else none) else none) else some (.inl false)) : Option (Sum (Bool) f_slices_insertionSortCmpFunc_api_Lsa_fn49.R))).bind fun y17 => match y17 with | .inl s13 => (if s13 = true then (if 0 ≤ (IntKind.i64.wrap (s12.1 - 1)) then (if (IntKind.i64.wrap (s12.1 - 1)) < (s12.2.length : Int) then (if 0 ≤ s12.1 then (if s12.1 < (s12.2.length : Int) then (if (IntKind.i64.wrap (s12.1 - 1)) < ((setI s12.2 s12.1 (rd s12.2 (IntKind.i64.wrap (s12.1 - 1)))).length : Int) then some (.inl (IntKind.i64.wrap (s12.1 - 1), setI (setI s12.2 s12.1 (rd s12.2 (IntKind.i64.wrap (s12.1 - 1)))) (IntKind.i64.wrap (s12.1 - 1)) (rd s12.2 s12.1))) else none) else none) else none) else none) else none) else some (.inr (.inl (s12.1, s12.2)))) | .inr r_ => some (.inr (.inr r_)))
noncomputable def f_slices_insertionSortCmpFunc_api_Lsa_fn49.b1 (a1 : Int) (a2 : Int) (s9 : Int × (List T_api_Lsa)) : Option (Sum (Int × (List T_api_Lsa)) (Sum (Int × (List T_api_Lsa)) f_slices_insertionSortCmpFunc_api_Lsa_fn49.R)) := (if s9.1 < a2 then ((loopO (f_slices_insertionSortCmpFunc_api_Lsa_fn49.b0 a1) (s9.1, s9.2)).bind fun y15 => match y15 with | .inl s12 => some (.inl (IntKind.i64.wrap (s9.1 + 1), s12.2)) | .inr r_ => some (.inr (.inr r_))) else some (.inr (.inl (s9.1, s9.2))))
noncomputable def f_slices_insertionSortCmpFunc_api_Lsa_fn49 (a0 : List T_api_Lsa) (a1 : Int) (a2 : Int) : Option f_slices_insertionSortCmpFunc_api_Lsa_fn49.R := ((loopO (f_slices_insertionSortCmpFunc_api_Lsa_fn49.b1 a1 a2) (IntKind.i64.wrap (a1 + 1), a0)).bind fun y11 => match y11 with | .inl s9 => some s9.2 | .inr r_ => some r_)
set_option maxHeartbeats 1000000 in
theorem f_slices_insertionSortCmpFunc_api_Lsa_fn49.ok {z w : World} {F G : Hp} (hG : G ⊆ F) {a0 : List T_api_Lsa} {A_a0 : Option Addr} {c_a0 : Nat} {L_a0 : Hp} {a1 : Int} {a2 : Int} {r : f_slices_insertionSortCmpFunc_api_Lsa_fn49.R} (H : f_slices_insertionSortCmpFunc_api_Lsa_fn49 a0 a1 a2 = some r) (HF : Fits z w (L_a0 ++ F)) (ho_a0 : OwnS (kShr G k_T_api_Lsa) L_a0 A_a0 c_a0 a0) :
  Calls Try.prog 73 [.slice A_a0 a0.length c_a0, .int .i64 a1, .int .i64 a2, .func (.func 49) [].toArray [].toArray].toArray w fun e w' => ∃ (N : Hp) (M0 : Hp), e = .returned (.tuple #[]) ∧ Fits z w' (M0 ++ (N ++ F)) ∧ OwnS (kShr (N ++ G) k_T_api_Lsa) M0 A_a0 c_a0 r := by
 unfold f_slices_insertionSortCmpFunc_api_Lsa_fn49 at H
 refine enter0 Try.func73 rfl Try.ntmps73 rfl (E := [(0, .slice A_a0 a0.length c_a0), (1, .int .i64 a1), (2, .int .i64 a2), (3, .func (.func 49) [].toArray [].toArray)]) rfl ?_
 refine cSeq (fun K1 hK1 => ?_)
 refine cRgn [] trivial ?_
 refine sL (mv rfl) rfl ?_
 refine sL (bAdd rfl rfl) rfl ?_
 refine sL (asg rfl) rfl ?_
 refine lE ?_
 refine kN (?_)
 refine hK1 _ _ ?_
 replace H := bnd H; obtain ⟨y11, J40, Ho9⟩ := H
 refine cLoopB (f_slices_insertionSortCmpFunc_api_Lsa_fn49.b1 a1 a2) (fun (s9 : Int × (List T_api_Lsa)) a w => ∃ (L30 : Hp), Env 53 [(0, .slice A_a0 s9.2.length c_a0), (1, .int .i64 a1), (2, .int .i64 a2), (3, .func (.func 49) [].toArray [].toArray), (8, .int .i64 s9.1)] a ∧ Fits z w (L30 ++ F) ∧ OwnS (kShr G k_T_api_Lsa) L30 A_a0 c_a0 s9.2) J40 (fun a hE => ⟨L_a0, hE.keep (Keep.cons rfl (Keep.cons rfl (Keep.cons rfl (Keep.cons rfl (Keep.cons rfl (Keep.nil)))))), HF, ho_a0⟩) ?_ ?_
 ·rintro s9 a w77 y12 ⟨L30, hE, HF95, ho30⟩ H Hx3
  refine go_ hE ?_
  refine cSeq (fun K28 hK28 => ?_)
  refine cSeq (fun K29 hK29 => ?_)
  refine cRgn [] trivial ?_
  refine sL (mv rfl) rfl ?_
  refine sL (mv rfl) rfl ?_
  refine sL (bLss rfl rfl) rfl ?_
  refine lE ?_
  refine kN (?_)
  refine hK29 _ _ ?_
  by_cases c477 : s9.1 < a2
  ·replace H := itT c477 H
   refine cSet (i := 14) rfl (dT c477) ?_
   refine cT rfl ?_
   refine cSkip ?_
   refine kN (?_)
   refine hK28 _ _ ?_
   refine cSeq (fun K30 hK30 => ?_)
   refine cBlock ?_
   refine cSeq (fun K31 hK31 => ?_)
   refine cRgn [] trivial ?_
   refine sL (mv rfl) rfl ?_
   refine sL (asg rfl) rfl ?_
   refine lE ?_
   refine kN (?_)
   refine hK31 _ _ ?_
   replace H := bnd H; obtain ⟨y15, J39, Ho12⟩ := H
   refine cLoopB (f_slices_insertionSortCmpFunc_api_Lsa_fn49.b0 a1) (fun (s12 : Int × (List T_api_Lsa)) a w => ∃ (L40 : Hp), Env 53 [(0, .slice A_a0 s12.2.length c_a0), (1, .int .i64 a1), (2, .int .i64 a2), (3, .func (.func 49) [].toArray [].toArray), (8, .int .i64 s9.1), (9, .int .i64 s12.1)] a ∧ Fits z w (L40 ++ F) ∧ OwnS (kShr G k_T_api_Lsa) L40 A_a0 c_a0 s12.2) J39 (fun a hE => ⟨L30, hE.keep (Keep.cons rfl (Keep.cons rfl (Keep.cons rfl (Keep.cons rfl (Keep.cons rfl (Keep.cons rfl (Keep.nil))))))), HF95, ho30⟩) ?_ ?_
   ·rintro s12 a w102 y16 ⟨L40, hE, HF126, ho40⟩ H Hx4
    refine go_ hE ?_
    refine cSeq (fun K38 hK38 => ?_)
    refine cSeq (fun K39 hK39 => ?_)
    replace H := bnd H; obtain ⟨y17, H, Ho13⟩ := H
    refine cJoin (y := y17) (fun (s13 : Bool) a w => Env 53 [(0, .slice A_a0 s12.2.length c_a0), (1, .int .i64 a1), (2, .int .i64 a2), (3, .func (.func 49) [].toArray [].toArray), (8, .int .i64 s9.1), (9, .int .i64 s12.1), (34, .bool s13)] a ∧ Fits z w (L40 ++ F)) ?_ ?_
    ·refine cDraw mo_ HF126 rfl (fun w => Fits z w (L40 ++ F)) (fun w107 HF131 => ?_)
     refine hT 0 rfl (by kernel_rfl) (fun w_ hS_ => mv rfl) HF131 rfl rfl ?_
     refine hT 1 rfl (by kernel_rfl) (fun w_ hS_ => mv rfl) HF131 rfl rfl ?_
     refine hT 2 rfl (by kernel_rfl) (fun w_ hS_ => bGtr rfl rfl) HF131 rfl rfl ?_
     refine hT 3 rfl (by kernel_rfl) (fun w_ hS_ => mv rfl) HF131 rfl rfl ?_
     by_cases c669 : a1 < s12.1
     ·replace H := itT c669 H
      refine hSet (i := 21) rfl (dT c669) ?_
      refine hTG 4 rfl rfl rfl (by kernel_rfl) (fun w_ hS_ => mv rfl) HF131 rfl rfl ?_
      refine hTG 5 rfl rfl rfl (by kernel_rfl) (fun w_ hS_ => mv rfl) HF131 rfl rfl ?_
      refine hTG 6 rfl rfl rfl (by kernel_rfl) (fun w_ hS_ => mv rfl) HF131 rfl rfl ?_
      replace H := chk H; obtain ⟨c670, H⟩ := H
      replace H := chk H; obtain ⟨c671, H⟩ := H
      obtain ⟨g52, o52, e270, rfl, hk135, q135⟩ := RdS.at_ ho40.rd c670 c671
      obtain ⟨A403, c672, A404, c673, A405, c674, rfl, hr403, hr404, hr405⟩ := rd_T_api_Lsa hk135
      refine hTG 7 rfl rfl rfl (by kernel_rfl) (fun w_ hS_ => ia rfl rfl Try.underlying24 ti44 c670 c671) HF131 rfl rfl ?_
      refine hTG 8 rfl rfl rfl (by kernel_rfl) (fun w_ hS_ => ldA rfl ti44 rfl rfl (fun j v hj => hS_.cells (sub_h) (q135 j v hj))) HF131 rfl rfl ?_
      refine hTG 9 rfl rfl rfl (by kernel_rfl) (fun w_ hS_ => mv rfl) HF131 rfl rfl ?_
      refine hTG 10 rfl rfl rfl (by kernel_rfl) (fun w_ hS_ => mv rfl) HF131 rfl rfl ?_
      refine hTG 11 rfl rfl rfl (by kernel_rfl) (fun w_ hS_ => bSub rfl rfl) HF131 rfl rfl ?_
      replace H := chk H; obtain ⟨c675, H⟩ := H
      replace H := chk H; obtain ⟨c676, H⟩ := H
      obtain ⟨e272, hk136, q136⟩ := RdS.at' ho40.rd c675 c676
      obtain ⟨A406, c677, A407, c678, A408, c679, rfl, hr406, hr407, hr408⟩ := rd_T_api_Lsa hk136
      refine hTG 12 rfl rfl rfl (by kernel_rfl) (fun w_ hS_ => ia rfl rfl Try.underlying24 ti44 c675 c676) HF131 rfl rfl ?_
      refine hTG 13 rfl rfl rfl (by kernel_rfl) (fun w_ hS_ => ldA rfl ti44 rfl rfl (fun j v hj => hS_.cells (sub_h) (q136 j v hj))) HF131 rfl rfl ?_
      refine h1 14 (by kernel_rfl) rfl ?_
      replace H := bnd H; obtain ⟨t36, J38, H⟩ := H
      refine qCall rfl (gd1 rfl rfl) isf49 rfl rfl rfl (f_topo_live_1.ok (a0 := (rd s12.2 s12.1)) (a1 := (rd s12.2 (IntKind.i64.wrap (s12.1 - 1)))) (sub_a hG) J38 HF131 (sub_a hG) hr403 (sub_a hG) hr404 (sub_a hG) hr405 (sub_a hG) hr406 (sub_a hG) hr407 (sub_a hG) hr408) ?_
      rintro _ w108 ⟨rfl, HF132⟩
      refine ⟨_, rfl, HF132, ?_⟩
      refine hTG 15 rfl rfl rfl (by kernel_rfl) (fun w_ hS_ => bLss rfl rfl) HF132 rfl rfl ?_
      refine hT 16 rfl (by kernel_rfl) (fun w_ hS_ => pkT rfl rfl) HF132 rfl rfl ?_
      refine hEnd (by kernel_rfl) ?_
      refine kN (?_)
      exact ofEnv (fun a hE => ⟨_, (Option.some.inj H).symm, ⟨hE.keep (Keep.cons rfl (Keep.cons rfl (Keep.cons rfl (Keep.cons rfl (Keep.cons rfl (Keep.cons rfl (Keep.cons rfl (Keep.nil)))))))), HF132⟩⟩)
     replace H := itF c669 H
     refine hSet (i := 21) rfl (dF c669) ?_
     refine hTN 4 rfl rfl rfl (by kernel_rfl) HF131 rfl rfl ?_
     refine hTN 5 rfl rfl rfl (by kernel_rfl) HF131 rfl rfl ?_
     refine hTN 6 rfl rfl rfl (by kernel_rfl) HF131 rfl rfl ?_
     refine hTN 7 rfl rfl rfl (by kernel_rfl) HF131 rfl rfl ?_
     refine hTN 8 rfl rfl rfl (by kernel_rfl) HF131 rfl rfl ?_
     refine hTN 9 rfl rfl rfl (by kernel_rfl) HF131 rfl rfl ?_
     refine hTN 10 rfl rfl rfl (by kernel_rfl) HF131 rfl rfl ?_
     refine hTN 11 rfl rfl rfl (by kernel_rfl) HF131 rfl rfl ?_
     refine hTN 12 rfl rfl rfl (by kernel_rfl) HF131 rfl rfl ?_
     refine hTN 13 rfl rfl rfl (by kernel_rfl) HF131 rfl rfl ?_
     refine hTN 14 rfl rfl rfl (by kernel_rfl) HF131 rfl rfl ?_
     refine hTN 15 rfl rfl rfl (by kernel_rfl) HF131 rfl rfl ?_
     refine hT 16 rfl (by kernel_rfl) (fun w_ hS_ => pkF rfl rfl) HF131 rfl rfl ?_
     refine hEnd (by kernel_rfl) ?_
     refine kN (?_)
     exact ofEnv (fun a hE => ⟨_, (Option.some.inj H).symm, ⟨hE.keep (Keep.cons rfl (Keep.cons rfl (Keep.cons rfl (Keep.cons rfl (Keep.cons rfl (Keep.cons rfl (Keep.cons rfl (Keep.nil)))))))), HF131⟩⟩)
    rintro s13 a w109 rfl ⟨hE, HF133⟩
    replace H := Ho13
    refine go_k hE ?_
    refine kN (?_)
    refine hK39 _ _ ?_
    by_cases c680 : s13 = true
    ·replace H := itT c680 H
     refine cSet (i := 34) rfl (vT c680) ?_
     refine cT rfl ?_
     refine cSkip ?_
     refine kN (?_)
     refine hK38 _ _ ?_
     refine cSeq (fun K40 hK40 => ?_)
     refine cBlock ?_
     refine cDraw mo_ HF133 rfl (fun w => Fits z w F) (fun w112 HF136 => ?_)
     have HF137 := HF136.sublist (sl_da sR)
     refine hT 0 rfl (by kernel_rfl) (fun w_ hS_ => mv rfl) HF137 rfl rfl ?_
     refine hT 1 rfl (by kernel_rfl) (fun w_ hS_ => mv rfl) HF137 rfl rfl ?_
     refine hT 2 rfl (by kernel_rfl) (fun w_ hS_ => mv rfl) HF137 rfl rfl ?_
     refine hT 3 rfl (by kernel_rfl) (fun w_ hS_ => mv rfl) HF137 rfl rfl ?_
     refine hT 4 rfl (by kernel_rfl) (fun w_ hS_ => bSub rfl rfl) HF137 rfl rfl ?_
     refine hT 5 rfl (by kernel_rfl) (fun w_ hS_ => mv rfl) HF137 rfl rfl ?_
     refine hT 6 rfl (by kernel_rfl) (fun w_ hS_ => mv rfl) HF137 rfl rfl ?_
     refine hT 7 rfl (by kernel_rfl) (fun w_ hS_ => bSub rfl rfl) HF137 rfl rfl ?_
     replace H := chk H; obtain ⟨c698, H⟩ := H
     replace H := chk H; obtain ⟨c699, H⟩ := H
     obtain ⟨g54, o54, e282, rfl, hk141, q141⟩ := RdS.at_ ho40.rd c698 c699
     obtain ⟨A421, c700, A422, c701, A423, c702, rfl, hr421, hr422, hr423⟩ := rd_T_api_Lsa hk141
     refine hT 8 rfl (by kernel_rfl) (fun w_ hS_ => ia rfl rfl Try.underlying24 ti44 c698 c699) HF137 rfl rfl ?_
     refine hT 10 rfl (by kernel_rfl) (fun w_ hS_ => mv rfl) HF137 rfl rfl ?_
     refine hT 11 rfl (by kernel_rfl) (fun w_ hS_ => mv rfl) HF137 rfl rfl ?_
     replace H := chk H; obtain ⟨c703, H⟩ := H
     replace H := chk H; obtain ⟨c704, H⟩ := H
     obtain ⟨e284, hk142, q142⟩ := RdS.at' ho40.rd c703 c704
     obtain ⟨A424, c705, A425, c706, A426, c707, rfl, hr424, hr425, hr426⟩ := rd_T_api_Lsa hk142
     refine hT 12 rfl (by kernel_rfl) (fun w_ hS_ => ia rfl rfl Try.underlying24 ti44 c703 c704) HF137 rfl rfl ?_
     refine h2 9 13 (by kernel_rfl) rfl rfl ?_ ?_
     ·refine qL rfl gd0 (ldA rfl ti44 rfl rfl (fun j v hj => HF136.cells (sub_h) (q141 j v hj))) rfl HF137 ?_
      refine h1 13 (by kernel_rfl) rfl ?_
      refine qL rfl gd0 (ldA rfl ti44 rfl rfl (fun j v hj => HF136.cells (sub_h) (q142 j v hj))) rfl HF137 ?_
      obtain ⟨e286, hk143, q143⟩ := RdS.at' ho40.rd c703 c704
      obtain ⟨A427, c708, A428, c709, A429, c710, rfl, hr427, hr428, hr429⟩ := rd_T_api_Lsa hk143
      refine hT 14 rfl (by kernel_rfl) (fun w_ hS_ => ia rfl rfl Try.underlying24 ti44 c703 c704) HF137 rfl rfl ?_
      refine h1 15 (by kernel_rfl) rfl ?_
      refine qS rfl gd0 (oStE (K := (kShr G k_T_api_Lsa)) (c := c_a0) (off := 0) (y' := (rd s12.2 (IntKind.i64.wrap (s12.1 - 1)))) shrS HF136 ho40 c703 c704 rfl rfl ti44 rfl (ones rfl) (Nat.le_of_ble_eq_true rfl) (fun ci hci => shrAll hci rfl (mk_T_api_Lsa (x := (rd s12.2 (IntKind.i64.wrap (s12.1 - 1)))) (hr421) (hr422) (hr423)))) ?_
      rintro w113 ⟨L43, HF138, ho43⟩
      have HF139 := HF138.sublist (sl_da sR)
      refine ⟨HF139, ?_⟩
      refine hSet (i := 0) (v := .slice (some ⟨g54, o54, none⟩) (setI s12.2 s12.1 (rd s12.2 (IntKind.i64.wrap (s12.1 - 1)))).length c_a0) rfl (by simp only [len_setI]) ?_
      refine hSet (i := 37) (v := .slice (some ⟨g54, o54, none⟩) (setI s12.2 s12.1 (rd s12.2 (IntKind.i64.wrap (s12.1 - 1)))).length c_a0) rfl (by simp only [len_setI]) ?_
      refine hSet (i := 39) (v := .slice (some ⟨g54, o54, none⟩) (setI s12.2 s12.1 (rd s12.2 (IntKind.i64.wrap (s12.1 - 1)))).length c_a0) rfl (by simp only [len_setI]) ?_
      refine hSet (i := 42) (v := .slice (some ⟨g54, o54, none⟩) (setI s12.2 s12.1 (rd s12.2 (IntKind.i64.wrap (s12.1 - 1)))).length c_a0) rfl (by simp only [len_setI]) ?_
      refine hSet (i := 47) (v := .slice (some ⟨g54, o54, none⟩) (setI s12.2 s12.1 (rd s12.2 (IntKind.i64.wrap (s12.1 - 1)))).length c_a0) rfl (by simp only [len_setI]) ?_
      replace H := chk H; obtain ⟨c711, H⟩ := H
      obtain ⟨e288, hk144, q144⟩ := RdS.at' ho43.rd c698 c711
      obtain ⟨A430, c712, A431, c713, A432, c714, rfl, hr430, hr431, hr432⟩ := rd_T_api_Lsa hk144
      refine hT 16 rfl (by kernel_rfl) (fun w_ hS_ => ia rfl rfl Try.underlying24 ti44 c698 c711) HF139 rfl rfl ?_
      refine h1 17 (by kernel_rfl) rfl ?_
      refine qS rfl gd0 (oStE (K := (kShr G k_T_api_Lsa)) (c := c_a0) (off := 0) (y' := (rd s12.2 s12.1)) shrS HF138 ho43 c698 c711 rfl rfl ti44 rfl (ones rfl) (Nat.le_of_ble_eq_true rfl) (fun ci hci => shrAll hci rfl (mk_T_api_Lsa (x := (rd s12.2 s12.1)) (hr424) (hr425) (hr426)))) ?_
      rintro w114 ⟨L44, HF140, ho44⟩
      have HF141 := HF140.sublist (sl_da sR)
      refine ⟨HF141, ?_⟩
      refine hSet (i := 0) (v := .slice (some ⟨g54, o54, none⟩) (setI (setI s12.2 s12.1 (rd s12.2 (IntKind.i64.wrap (s12.1 - 1)))) (IntKind.i64.wrap (s12.1 - 1)) (rd s12.2 s12.1)).length c_a0) rfl (by simp only [len_setI]) ?_
      refine hSet (i := 37) (v := .slice (some ⟨g54, o54, none⟩) (setI (setI s12.2 s12.1 (rd s12.2 (IntKind.i64.wrap (s12.1 - 1)))) (IntKind.i64.wrap (s12.1 - 1)) (rd s12.2 s12.1)).length c_a0) rfl (by simp only [len_setI]) ?_
      refine hSet (i := 39) (v := .slice (some ⟨g54, o54, none⟩) (setI (setI s12.2 s12.1 (rd s12.2 (IntKind.i64.wrap (s12.1 - 1)))) (IntKind.i64.wrap (s12.1 - 1)) (rd s12.2 s12.1)).length c_a0) rfl (by simp only [len_setI]) ?_
      refine hSet (i := 42) (v := .slice (some ⟨g54, o54, none⟩) (setI (setI s12.2 s12.1 (rd s12.2 (IntKind.i64.wrap (s12.1 - 1)))) (IntKind.i64.wrap (s12.1 - 1)) (rd s12.2 s12.1)).length c_a0) rfl (by simp only [len_setI]) ?_
      refine hSet (i := 47) (v := .slice (some ⟨g54, o54, none⟩) (setI (setI s12.2 s12.1 (rd s12.2 (IntKind.i64.wrap (s12.1 - 1)))) (IntKind.i64.wrap (s12.1 - 1)) (rd s12.2 s12.1)).length c_a0) rfl (by simp only [len_setI]) ?_
      refine hEnd (by kernel_rfl) ?_
      refine jN (kN (?_))
      refine hK40 _ _ ?_
      refine cRgn [] trivial ?_
      refine sL (mv rfl) rfl ?_
      refine sL (bSub rfl rfl) rfl ?_
      refine sL (asg rfl) rfl ?_
      refine lE ?_
      refine kN (?_)
      exact ofEnv (fun a hE => ⟨_, (Option.some.inj H).symm, ⟨L44, hE.keep (Keep.cons rfl (Keep.cons rfl (Keep.cons rfl (Keep.cons rfl (Keep.cons rfl (Keep.cons rfl (Keep.nil))))))), HF140, ho44⟩⟩)
     refine qL rfl gd0 (ldA rfl ti44 rfl rfl (fun j v hj => HF136.cells (sub_h) (q142 j v hj))) rfl HF137 ?_
     refine h1 9 (by kernel_rfl) rfl ?_
     refine qL rfl gd0 (ldA rfl ti44 rfl rfl (fun j v hj => HF136.cells (sub_h) (q141 j v hj))) rfl HF137 ?_
     obtain ⟨e286, hk143, q143⟩ := RdS.at' ho40.rd c703 c704
     obtain ⟨A427, c708, A428, c709, A429, c710, rfl, hr427, hr428, hr429⟩ := rd_T_api_Lsa hk143
     refine hT 14 rfl (by kernel_rfl) (fun w_ hS_ => ia rfl rfl Try.underlying24 ti44 c703 c704) HF137 rfl rfl ?_
     refine h1 15 (by kernel_rfl) rfl ?_
     refine qS rfl gd0 (oStE (K := (kShr G k_T_api_Lsa)) (c := c_a0) (off := 0) (y' := (rd s12.2 (IntKind.i64.wrap (s12.1 - 1)))) shrS HF136 ho40 c703 c704 rfl rfl ti44 rfl (ones rfl) (Nat.le_of_ble_eq_true rfl) (fun ci hci => shrAll hci rfl (mk_T_api_Lsa (x := (rd s12.2 (IntKind.i64.wrap (s12.1 - 1)))) (hr421) (hr422) (hr423)))) ?_
     rintro w113 ⟨L43, HF138, ho43⟩
     have HF139 := HF138.sublist (sl_da sR)
     refine ⟨HF139, ?_⟩
     refine hSet (i := 0) (v := .slice (some ⟨g54, o54, none⟩) (setI s12.2 s12.1 (rd s12.2 (IntKind.i64.wrap (s12.1 - 1)))).length c_a0) rfl (by simp only [len_setI]) ?_
     refine hSet (i := 37) (v := .slice (some ⟨g54, o54, none⟩) (setI s12.2 s12.1 (rd s12.2 (IntKind.i64.wrap (s12.1 - 1)))).length c_a0) rfl (by simp only [len_setI]) ?_
     refine hSet (i := 39) (v := .slice (some ⟨g54, o54, none⟩) (setI s12.2 s12.1 (rd s12.2 (IntKind.i64.wrap (s12.1 - 1)))).length c_a0) rfl (by simp only [len_setI]) ?_
     refine hSet (i := 42) (v := .slice (some ⟨g54, o54, none⟩) (setI s12.2 s12.1 (rd s12.2 (IntKind.i64.wrap (s12.1 - 1)))).length c_a0) rfl (by simp only [len_setI]) ?_
     refine hSet (i := 47) (v := .slice (some ⟨g54, o54, none⟩) (setI s12.2 s12.1 (rd s12.2 (IntKind.i64.wrap (s12.1 - 1)))).length c_a0) rfl (by simp only [len_setI]) ?_
     replace H := chk H; obtain ⟨c711, H⟩ := H
     obtain ⟨e288, hk144, q144⟩ := RdS.at' ho43.rd c698 c711
     obtain ⟨A430, c712, A431, c713, A432, c714, rfl, hr430, hr431, hr432⟩ := rd_T_api_Lsa hk144
     refine hT 16 rfl (by kernel_rfl) (fun w_ hS_ => ia rfl rfl Try.underlying24 ti44 c698 c711) HF139 rfl rfl ?_
     refine h1 17 (by kernel_rfl) rfl ?_
     refine qS rfl gd0 (oStE (K := (kShr G k_T_api_Lsa)) (c := c_a0) (off := 0) (y' := (rd s12.2 s12.1)) shrS HF138 ho43 c698 c711 rfl rfl ti44 rfl (ones rfl) (Nat.le_of_ble_eq_true rfl) (fun ci hci => shrAll hci rfl (mk_T_api_Lsa (x := (rd s12.2 s12.1)) (hr424) (hr425) (hr426)))) ?_
     rintro w114 ⟨L44, HF140, ho44⟩
     have HF141 := HF140.sublist (sl_da sR)
     refine ⟨HF141, ?_⟩
     refine hSet (i := 0) (v := .slice (some ⟨g54, o54, none⟩) (setI (setI s12.2 s12.1 (rd s12.2 (IntKind.i64.wrap (s12.1 - 1)))) (IntKind.i64.wrap (s12.1 - 1)) (rd s12.2 s12.1)).length c_a0) rfl (by simp only [len_setI]) ?_
     refine hSet (i := 37) (v := .slice (some ⟨g54, o54, none⟩) (setI (setI s12.2 s12.1 (rd s12.2 (IntKind.i64.wrap (s12.1 - 1)))) (IntKind.i64.wrap (s12.1 - 1)) (rd s12.2 s12.1)).length c_a0) rfl (by simp only [len_setI]) ?_
     refine hSet (i := 39) (v := .slice (some ⟨g54, o54, none⟩) (setI (setI s12.2 s12.1 (rd s12.2 (IntKind.i64.wrap (s12.1 - 1)))) (IntKind.i64.wrap (s12.1 - 1)) (rd s12.2 s12.1)).length c_a0) rfl (by simp only [len_setI]) ?_
     refine hSet (i := 42) (v := .slice (some ⟨g54, o54, none⟩) (setI (setI s12.2 s12.1 (rd s12.2 (IntKind.i64.wrap (s12.1 - 1)))) (IntKind.i64.wrap (s12.1 - 1)) (rd s12.2 s12.1)).length c_a0) rfl (by simp only [len_setI]) ?_
     refine hSet (i := 47) (v := .slice (some ⟨g54, o54, none⟩) (setI (setI s12.2 s12.1 (rd s12.2 (IntKind.i64.wrap (s12.1 - 1)))) (IntKind.i64.wrap (s12.1 - 1)) (rd s12.2 s12.1)).length c_a0) rfl (by simp only [len_setI]) ?_
     refine hEnd (by kernel_rfl) ?_
     refine jN (kN (?_))
     refine hK40 _ _ ?_
     refine cRgn [] trivial ?_
     refine sL (mv rfl) rfl ?_
     refine sL (bSub rfl rfl) rfl ?_
     refine sL (asg rfl) rfl ?_
     refine lE ?_
     refine kN (?_)
     exact ofEnv (fun a hE => ⟨_, (Option.some.inj H).symm, ⟨L44, hE.keep (Keep.cons rfl (Keep.cons rfl (Keep.cons rfl (Keep.cons rfl (Keep.cons rfl (Keep.cons rfl (Keep.nil))))))), HF140, ho44⟩⟩)
    replace H := itF c680 H
    refine cSet (i := 34) rfl (vF c680) ?_
    refine cF rfl ?_
    refine cExit ?_
    refine kX (kX (jX (kN (?_))))
    exact ofEnv (fun a hE => ⟨_, (Option.some.inj H).symm, ⟨L40, hE.keep (Keep.cons rfl (Keep.cons rfl (Keep.cons rfl (Keep.cons rfl (Keep.cons rfl (Keep.cons rfl (Keep.nil))))))), HF133, ho40⟩⟩)
   rintro s12 a w115 rfl ⟨L40, hE, HF142, ho40⟩
   replace H := Ho12
   refine go_k hE ?_
   refine jN (kN (?_))
   refine hK30 _ _ ?_
   refine cRgn [] trivial ?_
   refine sL (mv rfl) rfl ?_
   refine sL (bAdd rfl rfl) rfl ?_
   refine sL (asg rfl) rfl ?_
   refine lE ?_
   refine kN (?_)
   exact ofEnv (fun a hE => ⟨_, (Option.some.inj H).symm, ⟨L40, hE.keep (Keep.cons rfl (Keep.cons rfl (Keep.cons rfl (Keep.cons rfl (Keep.cons rfl (Keep.nil)))))), HF142, ho40⟩⟩)
  replace H := itF c477 H
  refine cSet (i := 14) rfl (dF c477) ?_
  refine cF rfl ?_
  refine cExit ?_
  refine kX (kX (jX (kN (?_))))
  exact ofEnv (fun a hE => ⟨_, (Option.some.inj H).symm, ⟨L30, hE.keep (Keep.cons rfl (Keep.cons rfl (Keep.cons rfl (Keep.cons rfl (Keep.cons rfl (Keep.nil)))))), HF95, ho30⟩⟩)
 rintro s9 a w116 rfl ⟨L30, hE, HF143, ho30⟩
 replace H := Ho9
 refine go_k hE ?_
 obtain rfl := Option.some.inj H
 refine end0 rfl ?_
 exact ⟨[], L30, rfl, HF143, ho30⟩
/-! ### slices.swapRangeCmpFunc[plenum/api.Lsa] (function 82) -/
abbrev f_slices_swapRangeCmpFunc_api_Lsa_fn49.R := List T_api_Lsa
noncomputable def f_slices_swapRangeCmpFunc_api_Lsa_fn49.b0 (a1 : Int) (a2 : Int) (a3 : Int) (s1 : Int × (List T_api_Lsa)) : Option (Sum (Int × (List T_api_Lsa)) (Sum (Int × (List T_api_Lsa)) f_slices_swapRangeCmpFunc_api_Lsa_fn49.R)) := (if s1.1 < a3 then (if 0 ≤ (IntKind.i64.wrap (a2 + s1.1)) then (if (IntKind.i64.wrap (a2 + s1.1)) < (s1.2.length : Int) then (if 0 ≤ (IntKind.i64.wrap (a1 + s1.1)) then (if (IntKind.i64.wrap (a1 + s1.1)) < (s1.2.length : Int) then (if (IntKind.i64.wrap (a2 + s1.1)) < ((setI s1.2 (IntKind.i64.wrap (a1 + s1.1)) (rd s1.2 (IntKind.i64.wrap (a2 + s1.1)))).length : Int) then some (.inl (IntKind.i64.wrap (s1.1 + 1), setI (setI s1.2 (IntKind.i64.wrap (a1 + s1.1)) (rd s1.2 (IntKind.i64.wrap (a2 + s1.1)))) (IntKind.i64.wrap (a2 + s1.1)) (rd s1.2 (IntKind.i64.wrap (a1 + s1.1))))) else none) else none) else none) else none) else none) else some (.inr (.inl (s1.1, s1.2))))
noncomputable def f_slices_swapRangeCmpFunc_api_Lsa_fn49 (a0 : List T_api_Lsa) (a1 : Int) (a2 : Int) (a3 : Int) : Option f_slices_swapRangeCmpFunc_api_Lsa_fn49.R := ((loopO (f_slices_swapRangeCmpFunc_api_Lsa_fn49.b0 a1 a2 a3) (0, a0)).bind fun y1 => match y1 with | .inl s1 => some s1.2 | .inr r_ => some r_)
set_option maxHeartbeats 1000000 in
theorem f_slices_swapRangeCmpFunc_api_Lsa_fn49.ok {z w : World} {F G : Hp} (hG : G ⊆ F) {a0 : List T_api_Lsa} {A_a0 : Option Addr} {c_a0 : Nat} {L_a0 : Hp} {a1 : Int} {a2 : Int} {a3 : Int} {r : f_slices_swapRangeCmpFunc_api_Lsa_fn49.R} (H : f_slices_swapRangeCmpFunc_api_Lsa_fn49 a0 a1 a2 a3 = some r) (HF : Fits z w (L_a0 ++ F)) (ho_a0 : OwnS (kShr G k_T_api_Lsa) L_a0 A_a0 c_a0 a0) :
  Calls Try.prog 82 [.slice A_a0 a0.length c_a0, .int .i64 a1, .int .i64 a2, .int .i64 a3, .func (.func 49) [].toArray [].toArray].toArray w fun e w' => ∃ (N : Hp) (M0 : Hp), e = .returned (.tuple #[]) ∧ Fits z w' (M0 ++ (N ++ F)) ∧ OwnS (kShr (N ++ G) k_T_api_Lsa) M0 A_a0 c_a0 r := by
 unfold f_slices_swapRangeCmpFunc_api_Lsa_fn49 at H
 refine enter0 Try.func82 rfl Try.ntmps82 rfl (E := [(0, .slice A_a0 a0.length c_a0), (1, .int .i64 a1), (2, .int .i64 a2), (3, .int .i64 a3), (4, .func (.func 49) [].toArray [].toArray)]) rfl ?_
 refine cSeq (fun K1 hK1 => ?_)
 refine cRgn [] trivial ?_
 refine sL (asg rfl) rfl ?_
 refine lE ?_
 refine kN (?_)
 refine hK1 _ _ ?_
 replace H := bnd H; obtain ⟨y1, J1, Ho1⟩ := H
 refine cLoopB (f_slices_swapRangeCmpFunc_api_Lsa_fn49.b0 a1 a2 a3) (fun (s1 : Int × (List T_api_Lsa)) a w => ∃ (L10 : Hp), Env 38 [(0, .slice A_a0 s1.2.length c_a0), (1, .int .i64 a1), (2, .int .i64 a2), (3, .int .i64 a3), (10, .int .i64 s1.1)] a ∧ Fits z w (L10 ++ F) ∧ OwnS (kShr G k_T_api_Lsa) L10 A_a0 c_a0 s1.2) J1 (fun a hE => ⟨L_a0, hE.keep (Keep.cons rfl (Keep.cons rfl (Keep.cons rfl (Keep.cons rfl (Keep.cons rfl (Keep.nil)))))), HF, ho_a0⟩) ?_ ?_
 ·rintro s1 a w11 y2 ⟨L10, hE, HF17, ho10⟩ H Hx1
  refine go_ hE ?_
  refine cSeq (fun K8 hK8 => ?_)
  refine cSeq (fun K9 hK9 => ?_)
  refine cRgn [] trivial ?_
  refine sL (mv rfl) rfl ?_
  refine sL (mv rfl) rfl ?_
  refine sL (bLss rfl rfl) rfl ?_
  refine lE ?_
  refine kN (?_)
  refine hK9 _ _ ?_
  by_cases c71 : s1.1 < a3
  ·replace H := itT c71 H
   refine cSet (i := 13) rfl (dT c71) ?_
   refine cT rfl ?_
   refine cSkip ?_
   refine kN (?_)
   refine hK8 _ _ ?_
   refine cSeq (fun K10 hK10 => ?_)
   refine cBlock ?_
   refine cDraw mo_ HF17 rfl (fun w => Fits z w F) (fun w14 HF20 => ?_)
   have HF21 := HF20.sublist (sl_da sR)
   refine hT 0 rfl (by kernel_rfl) (fun w_ hS_ => mv rfl) HF21 rfl rfl ?_
   refine hT 1 rfl (by kernel_rfl) (fun w_ hS_ => mv rfl) HF21 rfl rfl ?_
   refine hT 2 rfl (by kernel_rfl) (fun w_ hS_ => mv rfl) HF21 rfl rfl ?_
   refine hT 3 rfl (by kernel_rfl) (fun w_ hS_ => bAdd rfl rfl) HF21 rfl rfl ?_
   refine hT 4 rfl (by kernel_rfl) (fun w_ hS_ => mv rfl) HF21 rfl rfl ?_
   refine hT 5 rfl (by kernel_rfl) (fun w_ hS_ => mv rfl) HF21 rfl rfl ?_
   refine hT 6 rfl (by kernel_rfl) (fun w_ hS_ => mv rfl) HF21 rfl rfl ?_
   refine hT 7 rfl (by kernel_rfl) (fun w_ hS_ => bAdd rfl rfl) HF21 rfl rfl ?_
   refine hT 8 rfl (by kernel_rfl) (fun w_ hS_ => mv rfl) HF21 rfl rfl ?_
   refine hT 9 rfl (by kernel_rfl) (fun w_ hS_ => mv rfl) HF21 rfl rfl ?_
   refine hT 10 rfl (by kernel_rfl) (fun w_ hS_ => mv rfl) HF21 rfl rfl ?_
   refine hT 11 rfl (by kernel_rfl) (fun w_ hS_ => bAdd rfl rfl) HF21 rfl rfl ?_
   replace H := chk H; obtain ⟨c89, H⟩ := H
   replace H := chk H; obtain ⟨c90, H⟩ := H
   obtain ⟨g6, o6, e42, rfl, hk21, q21⟩ := RdS.at_ ho10.rd c89 c90
   obtain ⟨A61, c91, A62, c92, A63, c93, rfl, hr61, hr62, hr63⟩ := rd_T_api_Lsa hk21
   refine hT 12 rfl (by kernel_rfl) (fun w_ hS_ => ia rfl rfl Try.underlying24 ti44 c89 c90) HF21 rfl rfl ?_
   refine hT 14 rfl (by kernel_rfl) (fun w_ hS_ => mv rfl) HF21 rfl rfl ?_
   refine hT 15 rfl (by kernel_rfl) (fun w_ hS_ => mv rfl) HF21 rfl rfl ?_
   refine hT 16 rfl (by kernel_rfl) (fun w_ hS_ => mv rfl) HF21 rfl rfl ?_
   refine hT 17 rfl (by kernel_rfl) (fun w_ hS_ => bAdd rfl rfl) HF21 rfl rfl ?_
   replace H := chk H; obtain ⟨c94, H⟩ := H
   replace H := chk H; obtain ⟨c95, H⟩ := H
   obtain ⟨e44, hk22, q22⟩ := RdS.at' ho10.rd c94 c95
   obtain ⟨A64, c96, A65, c97, A66, c98, rfl, hr64, hr65, hr66⟩ := rd_T_api_Lsa hk22
   refine hT 18 rfl (by kernel_rfl) (fun w_ hS_ => ia rfl rfl Try.underlying24 ti44 c94 c95) HF21 rfl rfl ?_
   refine h2 13 19 (by kernel_rfl) rfl rfl ?_ ?_
   ·refine qL rfl gd0 (ldA rfl ti44 rfl rfl (fun j v hj => HF20.cells (sub_h) (q21 j v hj))) rfl HF21 ?_
    refine h1 19 (by kernel_rfl) rfl ?_
    refine qL rfl gd0 (ldA rfl ti44 rfl rfl (fun j v hj => HF20.cells (sub_h) (q22 j v hj))) rfl HF21 ?_
    obtain ⟨e46, hk23, q23⟩ := RdS.at' ho10.rd c94 c95
    obtain ⟨A67, c99, A68, c100, A69, c101, rfl, hr67, hr68, hr69⟩ := rd_T_api_Lsa hk23
    refine hT 20 rfl (by kernel_rfl) (fun w_ hS_ => ia rfl rfl Try.underlying24 ti44 c94 c95) HF21 rfl rfl ?_
    refine h1 21 (by kernel_rfl) rfl ?_
    refine qS rfl gd0 (oStE (K := (kShr G k_T_api_Lsa)) (c := c_a0) (off := 0) (y' := (rd s1.2 (IntKind.i64.wrap (a2 + s1.1)))) shrS HF20 ho10 c94 c95 rfl rfl ti44 rfl (ones rfl) (Nat.le_of_ble_eq_true rfl) (fun ci hci => shrAll hci rfl (mk_T_api_Lsa (x := (rd s1.2 (IntKind.i64.wrap (a2 + s1.1)))) (hr61) (hr62) (hr63)))) ?_
    rintro w15 ⟨L13, HF22, ho13⟩
    have HF23 := HF22.sublist (sl_da sR)
    refine ⟨HF23, ?_⟩
    refine hSet (i := 0) (v := .slice (some ⟨g6, o6, none⟩) (setI s1.2 (IntKind.i64.wrap (a1 + s1.1)) (rd s1.2 (IntKind.i64.wrap (a2 + s1.1)))).length c_a0) rfl (by simp only [len_setI]) ?_
    refine hSet (i := 16) (v := .slice (some ⟨g6, o6, none⟩) (setI s1.2 (IntKind.i64.wrap (a1 + s1.1)) (rd s1.2 (IntKind.i64.wrap (a2 + s1.1)))).length c_a0) rfl (by simp only [len_setI]) ?_
    refine hSet (i := 20) (v := .slice (some ⟨g6, o6, none⟩) (setI s1.2 (IntKind.i64.wrap (a1 + s1.1)) (rd s1.2 (IntKind.i64.wrap (a2 + s1.1)))).length c_a0) rfl (by simp only [len_setI]) ?_
    refine hSet (i := 24) (v := .slice (some ⟨g6, o6, none⟩) (setI s1.2 (IntKind.i64.wrap (a1 + s1.1)) (rd s1.2 (IntKind.i64.wrap (a2 + s1.1)))).length c_a0) rfl (by simp only [len_setI]) ?_
    refine hSet (i := 30) (v := .slice (some ⟨g6, o6, none⟩) (setI s1.2 (IntKind.i64.wrap (a1 + s1.1)) (rd s1.2 (IntKind.i64.wrap (a2 + s1.1)))).length c_a0) rfl (by simp only [len_setI]) ?_
    replace H := chk H; obtain ⟨c102, H⟩ := H
    obtain ⟨e48, hk24, q24⟩ := RdS.at' ho13.rd c89 c102
    obtain ⟨A70, c103, A71, c104, A72, c105, rfl, hr70, hr71, hr72⟩ := rd_T_api_Lsa hk24
    refine hT 22 rfl (by kernel_rfl) (fun w_ hS_ => ia rfl rfl Try.underlying24 ti44 c89 c102) HF23 rfl rfl ?_
    refine h1 23 (by kernel_rfl) rfl ?_
    refine qS rfl gd0 (oStE (K := (kShr G k_T_api_Lsa)) (c := c_a0) (off := 0) (y' := (rd s1.2 (IntKind.i64.wrap (a1 + s1.1)))) shrS HF22 ho13 c89 c102 rfl rfl ti44 rfl (ones rfl) (Nat.le_of_ble_eq_true rfl) (fun ci hci => shrAll hci rfl (mk_T_api_Lsa (x := (rd s1.2 (IntKind.i64.wrap (a1 + s1.1)))) (hr64) (hr65) (hr66)))) ?_
    rintro w16 ⟨L14, HF24, ho14⟩
    have HF25 := HF24.sublist (sl_da sR)
    refine ⟨HF25, ?_⟩
    refine hSet (i := 0) (v := .slice (some ⟨g6, o6, none⟩) (setI (setI s1.2 (IntKind.i64.wrap (a1 + s1.1)) (rd s1.2 (IntKind.i64.wrap (a2 + s1.1)))) (IntKind.i64.wrap (a2 + s1.1)) (rd s1.2 (IntKind.i64.wrap (a1 + s1.1)))).length c_a0) rfl (by simp only [len_setI]) ?_
    refine hSet (i := 16) (v := .slice (some ⟨g6, o6, none⟩) (setI (setI s1.2 (IntKind.i64.wrap (a1 + s1.1)) (rd s1.2 (IntKind.i64.wrap (a2 + s1.1)))) (IntKind.i64.wrap (a2 + s1.1)) (rd s1.2 (IntKind.i64.wrap (a1 + s1.1)))).length c_a0) rfl (by simp only [len_setI]) ?_
    refine hSet (i := 20) (v := .slice (some ⟨g6, o6, none⟩) (setI (setI s1.2 (IntKind.i64.wrap (a1 + s1.1)) (rd s1.2 (IntKind.i64.wrap (a2 + s1.1)))) (IntKind.i64.wrap (a2 + s1.1)) (rd s1.2 (IntKind.i64.wrap (a1 + s1.1)))).length c_a0) rfl (by simp only [len_setI]) ?_
    refine hSet (i := 24) (v := .slice (some ⟨g6, o6, none⟩) (setI (setI s1.2 (IntKind.i64.wrap (a1 + s1.1)) (rd s1.2 (IntKind.i64.wrap (a2 + s1.1)))) (IntKind.i64.wrap (a2 + s1.1)) (rd s1.2 (IntKind.i64.wrap (a1 + s1.1)))).length c_a0) rfl (by simp only [len_setI]) ?_
    refine hSet (i := 30) (v := .slice (some ⟨g6, o6, none⟩) (setI (setI s1.2 (IntKind.i64.wrap (a1 + s1.1)) (rd s1.2 (IntKind.i64.wrap (a2 + s1.1)))) (IntKind.i64.wrap (a2 + s1.1)) (rd s1.2 (IntKind.i64.wrap (a1 + s1.1)))).length c_a0) rfl (by simp only [len_setI]) ?_
    refine hEnd (by kernel_rfl) ?_
    refine jN (kN (?_))
    refine hK10 _ _ ?_
    refine cRgn [] trivial ?_
    refine sL (mv rfl) rfl ?_
    refine sL (bAdd rfl rfl) rfl ?_
    refine sL (asg rfl) rfl ?_
    refine lE ?_
    refine kN (?_)
    exact ofEnv (fun a hE => ⟨_, (Option.some.inj H).symm, ⟨L14, hE.keep (Keep.cons rfl (Keep.cons rfl (Keep.cons rfl (Keep.cons rfl (Keep.cons rfl (Keep.nil)))))), HF24, ho14⟩⟩)
   refine qL rfl gd0 (ldA rfl ti44 rfl rfl (fun j v hj => HF20.cells (sub_h) (q22 j v hj))) rfl HF21 ?_
   refine h1 13 (by kernel_rfl) rfl ?_
   refine qL rfl gd0 (ldA rfl ti44 rfl rfl (fun j v hj => HF20.cells (sub_h) (q21 j v hj))) rfl HF21 ?_
   obtain ⟨e46, hk23, q23⟩ := RdS.at' ho10.rd c94 c95
   obtain ⟨A67, c99, A68, c100, A69, c101, rfl, hr67, hr68, hr69⟩ := rd_T_api_Lsa hk23
   refine hT 20 rfl (by kernel_rfl) (fun w_ hS_ => ia rfl rfl Try.underlying24 ti44 c94 c95) HF21 rfl rfl ?_
   refine h1 21 (by kernel_rfl) rfl ?_
   refine qS rfl gd0 (oStE (K := (kShr G k_T_api_Lsa)) (c := c_a0) (off := 0) (y' := (rd s1.2 (IntKind.i64.wrap (a2 + s1.1)))) shrS HF20 ho10 c94 c95 rfl rfl ti44 rfl (ones rfl) (Nat.le_of_ble_eq_true rfl) (fun ci hci => shrAll hci rfl (mk_T_api_Lsa (x := (rd s1.2 (IntKind.i64.wrap (a2 + s1.1)))) (hr61) (hr62) (hr63)))) ?_
   rintro w15 ⟨L13, HF22, ho13⟩
   have HF23 := HF22.sublist (sl_da sR)
   refine ⟨HF23, ?_⟩
   refine hSet (i := 0) (v := .slice (some ⟨g6, o6, none⟩) (setI s1.2 (IntKind.i64.wrap (a1 + s1.1)) (rd s1.2 (IntKind.i64.wrap (a2 + s1.1)))).length c_a0) rfl (by simp only [len_setI]) ?_
   refine hSet (i := 16) (v := .slice (some ⟨g6, o6, none⟩) (setI s1.2 (IntKind.i64.wrap (a1 + s1.1)) (rd s1.2 (IntKind.i64.wrap (a2 + s1.1)))).length c_a0) rfl (by simp only [len_setI]) ?_
   refine hSet (i := 20) (v := .slice (some ⟨g6, o6, none⟩) (setI s1.2 (IntKind.i64.wrap (a1 + s1.1)) (rd s1.2 (IntKind.i64.wrap (a2 + s1.1)))).length c_a0) rfl (by simp only [len_setI]) ?_
   refine hSet (i := 24) (v := .slice (some ⟨g6, o6, none⟩) (setI s1.2 (IntKind.i64.wrap (a1 + s1.1)) (rd s1.2 (IntKind.i64.wrap (a2 + s1.1)))).length c_a0) rfl (by simp only [len_setI]) ?_
   refine hSet (i := 30) (v := .slice (some ⟨g6, o6, none⟩) (setI s1.2 (IntKind.i64.wrap (a1 + s1.1)) (rd s1.2 (IntKind.i64.wrap (a2 + s1.1)))).length c_a0) rfl (by simp only [len_setI]) ?_
   replace H := chk H; obtain ⟨c102, H⟩ := H
   obtain ⟨e48, hk24, q24⟩ := RdS.at' ho13.rd c89 c102
   obtain ⟨A70, c103, A71, c104, A72, c105, rfl, hr70, hr71, hr72⟩ := rd_T_api_Lsa hk24
   refine hT 22 rfl (by kernel_rfl) (fun w_ hS_ => ia rfl rfl Try.underlying24 ti44 c89 c102) HF23 rfl rfl ?_
   refine h1 23 (by kernel_rfl) rfl ?_
   refine qS rfl gd0 (oStE (K := (kShr G k_T_api_Lsa)) (c := c_a0) (off := 0) (y' := (rd s1.2 (IntKind.i64.wrap (a1 + s1.1)))) shrS HF22 ho13 c89 c102 rfl rfl ti44 rfl (ones rfl) (Nat.le_of_ble_eq_true rfl) (fun ci hci => shrAll hci rfl (mk_T_api_Lsa (x := (rd s1.2 (IntKind.i64.wrap (a1 + s1.1)))) (hr64) (hr65) (hr66)))) ?_
   rintro w16 ⟨L14, HF24, ho14⟩
   have HF25 := HF24.sublist (sl_da sR)
   refine ⟨HF25, ?_⟩
   refine hSet (i := 0) (v := .slice (some ⟨g6, o6, none⟩) (setI (setI s1.2 (IntKind.i64.wrap (a1 + s1.1)) (rd s1.2 (IntKind.i64.wrap (a2 + s1.1)))) (IntKind.i64.wrap (a2 + s1.1)) (rd s1.2 (IntKind.i64.wrap (a1 + s1.1)))).length c_a0) rfl (by simp only [len_setI]) ?_
   refine hSet (i := 16) (v := .slice (some ⟨g6, o6, none⟩) (setI (setI s1.2 (IntKind.i64.wrap (a1 + s1.1)) (rd s1.2 (IntKind.i64.wrap (a2 + s1.1)))) (IntKind.i64.wrap (a2 + s1.1)) (rd s1.2 (IntKind.i64.wrap (a1 + s1.1)))).length c_a0) rfl (by simp only [len_setI]) ?_
   refine hSet (i := 20) (v := .slice (some ⟨g6, o6, none⟩) (setI (setI s1.2 (IntKind.i64.wrap (a1 + s1.1)) (rd s1.2 (IntKind.i64.wrap (a2 + s1.1)))) (IntKind.i64.wrap (a2 + s1.1)) (rd s1.2 (IntKind.i64.wrap (a1 + s1.1)))).length c_a0) rfl (by simp only [len_setI]) ?_
   refine hSet (i := 24) (v := .slice (some ⟨g6, o6, none⟩) (setI (setI s1.2 (IntKind.i64.wrap (a1 + s1.1)) (rd s1.2 (IntKind.i64.wrap (a2 + s1.1)))) (IntKind.i64.wrap (a2 + s1.1)) (rd s1.2 (IntKind.i64.wrap (a1 + s1.1)))).length c_a0) rfl (by simp only [len_setI]) ?_
   refine hSet (i := 30) (v := .slice (some ⟨g6, o6, none⟩) (setI (setI s1.2 (IntKind.i64.wrap (a1 + s1.1)) (rd s1.2 (IntKind.i64.wrap (a2 + s1.1)))) (IntKind.i64.wrap (a2 + s1.1)) (rd s1.2 (IntKind.i64.wrap (a1 + s1.1)))).length c_a0) rfl (by simp only [len_setI]) ?_
   refine hEnd (by kernel_rfl) ?_
   refine jN (kN (?_))
   refine hK10 _ _ ?_
   refine cRgn [] trivial ?_
   refine sL (mv rfl) rfl ?_
   refine sL (bAdd rfl rfl) rfl ?_
   refine sL (asg rfl) rfl ?_
   refine lE ?_
   refine kN (?_)
   exact ofEnv (fun a hE => ⟨_, (Option.some.inj H).symm, ⟨L14, hE.keep (Keep.cons rfl (Keep.cons rfl (Keep.cons rfl (Keep.cons rfl (Keep.cons rfl (Keep.nil)))))), HF24, ho14⟩⟩)
  replace H := itF c71 H
  refine cSet (i := 13) rfl (dF c71) ?_
  refine cF rfl ?_
  refine cExit ?_
  refine kX (kX (jX (kN (?_))))
  exact ofEnv (fun a hE => ⟨_, (Option.some.inj H).symm, ⟨L10, hE.keep (Keep.cons rfl (Keep.cons rfl (Keep.cons rfl (Keep.cons rfl (Keep.cons rfl (Keep.nil)))))), HF17, ho10⟩⟩)
 rintro s1 a w17 rfl ⟨L10, hE, HF26, ho10⟩
 replace H := Ho1
 refine go_k hE ?_
 obtain rfl := Option.some.inj H
 refine end0 rfl ?_
 exact ⟨[], L10, rfl, HF26, ho10⟩
/-! ### slices.rotateCmpFunc[plenum/api.Lsa] (function 80) -/
abbrev f_slices_rotateCmpFunc_api_Lsa_fn49.R := List T_api_Lsa
noncomputable def f_slices_rotateCmpFunc_api_Lsa_fn49.b0 (a2 : Int) (s1 : Int × Int × (List T_api_Lsa)) : Option (Sum (Int × Int × (List T_api_Lsa)) (Sum (Int × Int × (List T_api_Lsa)) f_slices_rotateCmpFunc_api_Lsa_fn49.R)) := (if s1.1 = s1.2.1 then some (.inr (.inl (s1.1, s1.2.1, s1.2.2))) else (if s1.2.1 < s1.1 then ((f_slices_swapRangeCmpFunc_api_Lsa_fn49 s1.2.2 (IntKind.i64.wrap (a2 - s1.1)) a2 s1.2.1).bind fun t5 => (if t5.length = s1.2.2.length then some (.inl (IntKind.i64.wrap (s1.1 - s1.2.1), s1.2.1, t5)) else none)) else ((f_slices_swapRangeCmpFunc_api_Lsa_fn49 s1.2.2 (IntKind.i64.wrap (a2 - s1.1)) (IntKind.i64.wrap ((IntKind.i64.wrap (a2 + s1.2.1)) - s1.1)) s1.1).bind fun t6 => (if t6.length = s1.2.2.length then some (.inl (s1.1, IntKind.i64.wrap (s1.2.1 - s1.1), t6)) else none))))
noncomputable def f_slices_rotateCmpFunc_api_Lsa_fn49 (a0 : List T_api_Lsa) (a1 : Int) (a2 : Int) (a3 : Int) : Option f_slices_rotateCmpFunc_api_Lsa_fn49.R := ((loopO (f_slices_rotateCmpFunc_api_Lsa_fn49.b0 a2) (IntKind.i64.wrap (a2 - a1), IntKind.i64.wrap (a3 - a2), a0)).bind fun y1 => match y1 with | .inl s1 => ((f_slices_swapRangeCmpFunc_api_Lsa_fn49 s1.2.2 (IntKind.i64.wrap (a2 - s1.1)) a2 s1.1).bind fun t7 => (if t7.length = s1.2.2.length then some t7 else none)) | .inr r_ => some r_)
set_option maxHeartbeats 1000000 in
theorem f_slices_rotateCmpFunc_api_Lsa_fn49.ok {z w : World} {F G : Hp} (hG : G ⊆ F) {a0 : List T_api_Lsa} {A_a0 : Option Addr} {c_a0 : Nat} {L_a0 : Hp} {a1 : Int} {a2 : Int} {a3 : Int} {r : f_slices_rotateCmpFunc_api_Lsa_fn49.R} (H : f_slices_rotateCmpFunc_api_Lsa_fn49 a0 a1 a2 a3 = some r) (HF : Fits z w (L_a0 ++ F)) (ho_a0 : OwnS (kShr G k_T_api_Lsa) L_a0 A_a0 c_a0 a0) :
  Calls Try.prog 80 [.slice A_a0 a0.length c_a0, .int .i64 a1, .int .i64 a2, .int .i64 a3, .func (.func 49) [].toArray [].toArray].toArray w fun e w' => ∃ (N : Hp) (M0 : Hp), e = .returned (.tuple #[]) ∧ Fits z w' (M0 ++ (N ++ F)) ∧ OwnS (kShr (N ++ G) k_T_api_Lsa) M0 A_a0 c_a0 r := by
 unfold f_slices_rotateCmpFunc_api_Lsa_fn49 at H
 refine enter0 Try.func80 rfl Try.ntmps80 rfl (E := [(0, .slice A_a0 a0.length c_a0), (1, .int .i64 a1), (2, .int .i64 a2), (3, .int .i64 a3), (4, .func (.func 49) [].toArray [].toArray)]) rfl ?_
 refine cSeq (fun K1 hK1 => ?_)
 refine cRgn [] trivial ?_
 refine sL (mv rfl) rfl ?_
 refine sL (mv rfl) rfl ?_
 refine sL (bSub rfl rfl) rfl ?_
 refine sL (asg rfl) rfl ?_
 refine lE ?_
 refine kN (?_)
 refine hK1 _ _ ?_
 refine cSeq (fun K2 hK2 => ?_)
 refine cRgn [] trivial ?_
 refine sL (mv rfl) rfl ?_
 refine sL (mv rfl) rfl ?_
 refine sL (bSub rfl rfl) rfl ?_
 refine sL (asg rfl) rfl ?_
 refine lE ?_
 refine kN (?_)
 refine hK2 _ _ ?_
 refine cSeq (fun K3 hK3 => ?_)
 replace H := bnd H; obtain ⟨y1, J8, Ho1⟩ := H
 refine cLoopB (f_slices_rotateCmpFunc_api_Lsa_fn49.b0 a2) (fun (s1 : Int × Int × (List T_api_Lsa)) a w => ∃ (D2 : Hp) (L6 : Hp), Env 58 [(0, .slice A_a0 s1.2.2.length c_a0), (2, .int .i64 a2), (4, .func (.func 49) [].toArray [].toArray), (10, .int .i64 s1.1), (11, .int .i64 s1.2.1)] a ∧ Fits z w (L6 ++ (D2 ++ F)) ∧ OwnS (kShr (D2 ++ G) k_T_api_Lsa) L6 A_a0 c_a0 s1.2.2) J8 (fun a hE => ⟨[], L_a0, hE.keep (Keep.cons rfl (Keep.cons rfl (Keep.cons rfl (Keep.cons rfl (Keep.cons rfl (Keep.nil)))))), HF, ho_a0⟩) ?_ ?_
 ·rintro s1 a w5 y2 ⟨D2, L6, hE, HF7, ho6⟩ H Hx1
  refine go_ hE ?_
  have hs6 : G ⊆ D2 ++ G := sub_a sub_r
  refine cSeq (fun K14 hK14 => ?_)
  refine cSeq (fun K15 hK15 => ?_)
  refine cRgn [] trivial ?_
  refine sL (mv rfl) rfl ?_
  refine sL (mv rfl) rfl ?_
  refine sL (bNeq rfl rfl) rfl ?_
  refine lE ?_
  refine kN (?_)
  refine hK15 _ _ ?_
  by_cases c9 : s1.1 = s1.2.1
  ·replace H := itT c9 H
   refine cSet (i := 20) rfl (nF c9) ?_
   refine cF rfl ?_
   refine cExit ?_
   refine kX (kX (jX (kN (?_))))
   exact ofEnv (fun a hE => ⟨_, (Option.some.inj H).symm, ⟨D2, L6, hE.keep (Keep.cons rfl (Keep.cons rfl (Keep.cons rfl (Keep.cons rfl (Keep.cons rfl (Keep.nil)))))), HF7, ho6⟩⟩)
  replace H := itF c9 H
  refine cSet (i := 20) rfl (nT c9) ?_
  refine cT rfl ?_
  refine cSkip ?_
  refine kN (?_)
  refine hK14 _ _ ?_
  refine cBlock ?_
  refine cSeq (fun K16 hK16 => ?_)
  refine cRgn [] trivial ?_
  refine sL (mv rfl) rfl ?_
  refine sL (mv rfl) rfl ?_
  refine sL (bGtr rfl rfl) rfl ?_
  refine lE ?_
  refine kN (?_)
  refine hK16 _ _ ?_
  by_cases c10 : s1.2.1 < s1.1
  ·replace H := itT c10 H
   refine cSet (i := 23) rfl (dT c10) ?_
   refine cT rfl ?_
   refine cSeq (fun K17 hK17 => ?_)
   refine cRgn [] trivial ?_
   refine sL (mv rfl) rfl ?_
   refine sL (mv rfl) rfl ?_
   refine sL (mv rfl) rfl ?_
   refine sL (bSub rfl rfl) rfl ?_
   refine sL (mv rfl) rfl ?_
   refine sL (mv rfl) rfl ?_
   refine sL (mv rfl) rfl ?_
   replace H := bnd H; obtain ⟨t5, J5, H⟩ := H
   refine eCall isf82 rfl rfl rfl (f_slices_swapRangeCmpFunc_api_Lsa_fn49.ok (a0 := s1.2.2) (sub_n hG) J5 HF7 ho6) ?_
   rintro _ w6 ⟨N7, L7, rfl, HF8, ho7⟩
   obtain ⟨N8, hN3⟩ : ∃ N_, N_ = N7 ++ D2 := ⟨_, rfl⟩
   have HF9 := HF8; rw [← List.append_assoc N7 D2 F, ← hN3] at HF9
   have hs7 : D2 ++ G ⊆ N8 ++ G := frz_s hN3
   have hr3 := OwnS.lift (G' := (N8 ++ G)) ho7 (frz_c hN3)
   refine ⟨_, rfl, ?_⟩
   replace H := chk H; obtain ⟨c11, H⟩ := H
   refine lSet (i := 0) (v := .slice A_a0 t5.length c_a0) rfl (by rw [c11]) ?_
   refine lSet (i := 24) (v := .slice A_a0 t5.length c_a0) rfl (by rw [c11]) ?_
   refine lE ?_
   refine kN (?_)
   refine hK17 _ _ ?_
   refine cRgn [] trivial ?_
   refine sL (mv rfl) rfl ?_
   refine sL (mv rfl) rfl ?_
   refine sL (bSub rfl rfl) rfl ?_
   refine sL (asg rfl) rfl ?_
   refine lE ?_
   refine jN (kN (?_))
   exact ofEnv (fun a hE => ⟨_, (Option.some.inj H).symm, ⟨N8, L7, hE.keep (Keep.cons rfl (Keep.cons rfl (Keep.cons rfl (Keep.cons rfl (Keep.cons rfl (Keep.nil)))))), HF9, hr3⟩⟩)
  replace H := itF c10 H
  refine cSet (i := 23) rfl (dF c10) ?_
  refine cF rfl ?_
  refine cSeq (fun K18 hK18 => ?_)
  refine cRgn [] trivial ?_
  refine sL (mv rfl) rfl ?_
  refine sL (mv rfl) rfl ?_
  refine sL (mv rfl) rfl ?_
  refine sL (bSub rfl rfl) rfl ?_
  refine sL (mv rfl) rfl ?_
  refine sL (mv rfl) rfl ?_
  refine sL (bAdd rfl rfl) rfl ?_
  refine sL (mv rfl) rfl ?_
  refine sL (bSub rfl rfl) rfl ?_
  refine sL (mv rfl) rfl ?_
  refine sL (mv rfl) rfl ?_
  replace H := bnd H; obtain ⟨t6, J6, H⟩ := H
  refine eCall isf82 rfl rfl rfl (f_slices_swapRangeCmpFunc_api_Lsa_fn49.ok (a0 := s1.2.2) (sub_n hG) J6 HF7 ho6) ?_
  rintro _ w7 ⟨N9, L8, rfl, HF10, ho8⟩
  obtain ⟨N10, hN4⟩ : ∃ N_, N_ = N9 ++ D2 := ⟨_, rfl⟩
  have HF11 := HF10; rw [← List.append_assoc N9 D2 F, ← hN4] at HF11
  have hs8 : D2 ++ G ⊆ N10 ++ G := frz_s hN4
  have hr4 := OwnS.lift (G' := (N10 ++ G)) ho8 (frz_c hN4)
  refine ⟨_, rfl, ?_⟩
  replace H := chk H; obtain ⟨c12, H⟩ := H
  refine lSet (i := 0) (v := .slice A_a0 t6.length c_a0) rfl (by rw [c12]) ?_
  refine lSet (i := 35) (v := .slice A_a0 t6.length c_a0) rfl (by rw [c12]) ?_
  refine lE ?_
  refine kN (?_)
  refine hK18 _ _ ?_
  refine cRgn [] trivial ?_
  refine sL (mv rfl) rfl ?_
  refine sL (mv rfl) rfl ?_
  refine sL (bSub rfl rfl) rfl ?_
  refine sL (asg rfl) rfl ?_
  refine lE ?_
  refine jN (kN (?_))
  exact ofEnv (fun a hE => ⟨_, (Option.some.inj H).symm, ⟨N10, L8, hE.keep (Keep.cons rfl (Keep.cons rfl (Keep.cons rfl (Keep.cons rfl (Keep.cons rfl (Keep.nil)))))), HF11, hr4⟩⟩)
 rintro s1 a w8 rfl ⟨D2, L6, hE, HF12, ho6⟩
 replace H := Ho1
 refine go_k hE ?_
 have hs9 : G ⊆ D2 ++ G := sub_a sub_r
 refine kN (?_)
 refine hK3 _ _ ?_
 refine cRgn [] trivial ?_
 refine sL (mv rfl) rfl ?_
 refine sL (mv rfl) rfl ?_
 refine sL (mv rfl) rfl ?_
 refine sL (bSub rfl rfl) rfl ?_
 refine sL (mv rfl) rfl ?_
 refine sL (mv rfl) rfl ?_
 refine sL (mv rfl) rfl ?_
 replace H := bnd H; obtain ⟨t7, J7, H⟩ := H
 refine eCall isf82 rfl rfl rfl (f_slices_swapRangeCmpFunc_api_Lsa_fn49.ok (a0 := s1.2.2) (sub_n hG) J7 HF12 ho6) ?_
 rintro _ w9 ⟨N11, L9, rfl, HF13, ho9⟩
 obtain ⟨N12, hN5⟩ : ∃ N_, N_ = N11 ++ D2 := ⟨_, rfl⟩
 have HF14 := HF13; rw [← List.append_assoc N11 D2 F, ← hN5] at HF14
 have hs10 : D2 ++ G ⊆ N12 ++ G := frz_s hN5
 have hr5 := OwnS.lift (G' := (N12 ++ G)) ho9 (frz_c hN5)
 refine ⟨_, rfl, ?_⟩
 replace H := chk H; obtain ⟨c13, H⟩ := H
 refine lSet (i := 0) (v := .slice A_a0 t7.length c_a0) rfl (by rw [c13]) ?_
 refine lSet (i := 50) (v := .slice A_a0 t7.length c_a0) rfl (by rw [c13]) ?_
 refine lE ?_
 obtain rfl := Option.some.inj H
 refine end0 rfl ?_
 exact ⟨N12, L9, rfl, HF14, hr5⟩
/-! ### slices.symMergeCmpFunc[plenum/api.Lsa] (function 74) -/
abbrev f_slices_symMergeCmpFunc_api_Lsa_fn49.R := List T_api_Lsa
noncomputable def f_slices_symMergeCmpFunc_api_Lsa_fn49.b0 (a0 : List T_api_Lsa) (a1 : Int) (s1 : Int × Int) : Option (Sum (Int × Int) (Sum (Int × Int) f_slices_symMergeCmpFunc_api_Lsa_fn49.R)) := (if s1.1 < s1.2 then (if 0 ≤ (IntKind.i64.wrap (shrI .u64 (IntKind.u64.wrap (IntKind.i64.wrap (s1.1 + s1.2))) 1)) then (if (IntKind.i64.wrap (shrI .u64 (IntKind.u64.wrap (IntKind.i64.wrap (s1.1 + s1.2))) 1)) < (a0.length : Int) then (if 0 ≤ a1 then (if a1 < (a0.length : Int) then ((f_topo_live_1 (rd a0 (IntKind.i64.wrap (shrI .u64 (IntKind.u64.wrap (IntKind.i64.wrap (s1.1 + s1.2))) 1))) (rd a0 a1)).bind fun t6 => (if t6 < 0 then some (.inl (IntKind.i64.wrap ((IntKind.i64.wrap (shrI .u64 (IntKind.u64.wrap (IntKind.i64.wrap (s1.1 + s1.2))) 1)) + 1), s1.2)) else some (.inl (s1.1, IntKind.i64.wrap (shrI .u64 (IntKind.u64.wrap (IntKind.i64.wrap (s1.1 + s1.2))) 1))))) else none) else none) else none) else none) else some (.inr (.inl (s1.1, s1.2))))
noncomputable def f_slices_symMergeCmpFunc_api_Lsa_fn49.b1 (s1 : Int × Int) (s2 : Int × (List T_api_Lsa)) : Option (Sum (Int × (List T_api_Lsa)) (Sum (Int × (List T_api_Lsa)) f_slices_symMergeCmpFunc_api_Lsa_fn49.R)) := (if s2.1 < (IntKind.i64.wrap (s1.1 - 1)) then (if 0 ≤ (IntKind.i64.wrap (s2.1 + 1)) then (if (IntKind.i64.wrap (s2.1 + 1)) < (s2.2.length : Int) then (if 0 ≤ s2.1 then (if s2.1 < (s2.2.length : Int) then (if (IntKind.i64.wrap (s2.1 + 1)) < ((setI s2.2 s2.1 (rd s2.2 (IntKind.i64.wrap (s2.1 + 1)))).length : Int) then some (.inl (IntKind.i64.wrap (s2.1 + 1), setI (setI s2.2 s2.1 (rd s2.2 (IntKind.i64.wrap (s2.1 + 1)))) (IntKind.i64.wrap (s2.1 + 1)) (rd s2.2 s2.1))) else none) else none) else none) else none) else none) else some (.inr (.inl (s2.1, s2.2))))
noncomputable def f_slices_symMergeCmpFunc_api_Lsa_fn49.b2 (a0 : List T_api_Lsa) (a2 : Int) (s3 : Int × Int) : Option (Sum (Int × Int) (Sum (Int × Int) f_slices_symMergeCmpFunc_api_Lsa_fn49.R)) := (if s3.1 < s3.2 then (if 0 ≤ a2 then (if a2 < (a0.length : Int) then (if 0 ≤ (IntKind.i64.wrap (shrI .u64 (IntKind.u64.wrap (IntKind.i64.wrap (s3.1 + s3.2))) 1)) then (if (IntKind.i64.wrap (shrI .u64 (IntKind.u64.wrap (IntKind.i64.wrap (s3.1 + s3.2))) 1)) < (a0.length : Int) then ((f_topo_live_1 (rd a0 a2) (rd a0 (IntKind.i64.wrap (shrI .u64 (IntKind.u64.wrap (IntKind.i64.wrap (s3.1 + s3.2))) 1)))).bind fun t12 => (if t12 < 0 then some (.inl (s3.1, IntKind.i64.wrap (shrI .u64 (IntKind.u64.wrap (IntKind.i64.wrap (s3.1 + s3.2))) 1))) else some (.inl (IntKind.i64.wrap ((IntKind.i64.wrap (shrI .u64 (IntKind.u64.wrap (IntKind.i64.wrap (s3.1 + s3.2))) 1)) + 1), s3.2)))) else none) else none) else none) else none) else some (.inr (.inl (s3.1, s3.2))))
noncomputable def f_slices_symMergeCmpFunc_api_Lsa_fn49.b3 (s3 : Int × Int) (s4 : Int × (List T_api_Lsa)) : Option (Sum (Int × (List T_api_Lsa)) (Sum (Int × (List T_api_Lsa)) f_slices_symMergeCmpFunc_api_Lsa_fn49.R)) := (if s3.1 < s4.1 then (if 0 ≤ (IntKind.i64.wrap (s4.1 - 1)) then (if (IntKind.i64.wrap (s4.1 - 1)) < (s4.2.length : Int) then (if 0 ≤ s4.1 then (if s4.1 < (s4.2.length : Int) then (if (IntKind.i64.wrap (s4.1 - 1)) < ((setI s4.2 s4.1 (rd s4.2 (IntKind.i64.wrap (s4.1 - 1)))).length : Int) then some (.inl (IntKind.i64.wrap (s4.1 - 1), setI (setI s4.2 s4.1 (rd s4.2 (IntKind.i64.wrap (s4.1 - 1)))) (IntKind.i64.wrap (s4.1 - 1)) (rd s4.2 s4.1))) else none) else none) else none) else none) else none) else some (.inr (.inl (s4.1, s4.2))))
noncomputable def f_slices_symMergeCmpFunc_api_Lsa_fn49.b4 (a0 : List T_api_Lsa) (a1 : Int) (a2 : Int) (a3 : Int) (s6 : Int × Int) : Option (Sum (Int × Int) (Sum (Int × Int) f_slices_symMergeCmpFunc_api_Lsa_fn49.R)) := (if s6.1 < s6.2 then (if 0 ≤ (IntKind.i64.wrap ((IntKind.i64.wrap ((IntKind.i64.wrap ((IntKind.i64.wrap (shrI .u64 (IntKind.u64.wrap (IntKind.i64.wrap (a1 + a3))) 1)) + a2)) - 1)) - (IntKind.i64.wrap (shrI .u64 (IntKind.u64.wrap (IntKind.i64.wrap (s6.1 + s6.2))) 1)))) then (if (IntKind.i64.wrap ((IntKind.i64.wrap ((IntKind.i64.wrap ((IntKind.i64.wrap (shrI .u64 (IntKind.u64.wrap (IntKind.i64.wrap (a1 + a3))) 1)) + a2)) - 1)) - (IntKind.i64.wrap (shrI .u64 (IntKind.u64.wrap (IntKind.i64.wrap (s6.1 + s6.2))) 1)))) < (a0.length : Int) then (if 0 ≤ (IntKind.i64.wrap (shrI .u64 (IntKind.u64.wrap (IntKind.i64.wrap (s6.1 + s6.2))) 1)) then (if (IntKind.i64.wrap (shrI .u64 (IntKind.u64.wrap (IntKind.i64.wrap (s6.1 + s6.2))) 1)) < (a0.length : Int) then ((f_topo_live_1 (rd a0 (IntKind.i64.wrap ((IntKind.i64.wrap ((IntKind.i64.wrap ((IntKind.i64.wrap (shrI .u64 (IntKind.u64.wrap (IntKind.i64.wrap (a1 + a3))) 1)) + a2)) - 1)) - (IntKind.i64.wrap (shrI .u64 (IntKind.u64.wrap (IntKind.i64.wrap (s6.1 + s6.2))) 1))))) (rd a0 (IntKind.i64.wrap (shrI .u64 (IntKind.u64.wrap (IntKind.i64.wrap (s6.1 + s6.2))) 1)))).bind fun t18 => (if t18 < 0 then some (.inl (s6.1, IntKind.i64.wrap (shrI .u64 (IntKind.u64.wrap (IntKind.i64.wrap (s6.1 + s6.2))) 1))) else some (.inl (IntKind.i64.wrap ((IntKind.i64.wrap (shrI .u64 (IntKind.u64.wrap (IntKind.i64.wrap (s6.1 + s6.2))) 1)) + 1), s6.2)))) else none) else none) else none) else none) else some (.inr (.inl (s6.1, s6.2))))
noncomputable def f_slices_symMergeCmpFunc_api_Lsa_fn49 : Nat → (List T_api_Lsa) → Int → Int → Int → Option f_slices_symMergeCmpFunc_api_Lsa_fn49.R
 | 0, _, _, _, _ => none
 | k_ + 1, a0, a1, a2, a3 => (if (IntKind.i64.wrap (a2 - a1)) = 1 then ((loopO (f_slices_symMergeCmpFunc_api_Lsa_fn49.b0 a0 a1) (a2, a3)).bind fun y1 => match y1 with | .inl s1 => ((loopO (f_slices_symMergeCmpFunc_api_Lsa_fn49.b1 s1) (a1, a0)).bind fun y3 => match y3 with | .inl s2 => some s2.2 | .inr r_ => some r_) | .inr r_ => some r_) else (if (IntKind.i64.wrap (a3 - a2)) = 1 then ((loopO (f_slices_symMergeCmpFunc_api_Lsa_fn49.b2 a0 a2) (a1, a2)).bind fun y5 => match y5 with | .inl s3 => ((loopO (f_slices_symMergeCmpFunc_api_Lsa_fn49.b3 s3) (a2, a0)).bind fun y7 => match y7 with | .inl s4 => some s4.2 | .inr r_ => some r_) | .inr r_ => some r_) else ((((if (IntKind.i64.wrap (shrI .u64 (IntKind.u64.wrap (IntKind.i64.wrap (a1 + a3))) 1)) < a2 then some (.inl (IntKind.i64.wrap ((IntKind.i64.wrap ((IntKind.i64.wrap (shrI .u64 (IntKind.u64.wrap (IntKind.i64.wrap (a1 + a3))) 1)) + a2)) - a3), IntKind.i64.wrap (shrI .u64 (IntKind.u64.wrap (IntKind.i64.wrap (a1 + a3))) 1))) else some (.inl (a1, a2))) : Option (Sum (Int × Int) f_slices_symMergeCmpFunc_api_Lsa_fn49.R))).bind fun y9 => match y9 with | .inl s5 => ((loopO (f_slices_symMergeCmpFunc_api_Lsa_fn49.b4 a0 a1 a2 a3) (s5.1, s5.2)).bind fun y10 => match y10 with | .inl s6 => ((((if s6.1 < a2 then some (.inl (decide (a2 < (IntKind.i64.wrap ((IntKind.i64.wrap ((IntKind.i64.wrap (shrI .u64 (IntKind.u64.wrap (IntKind.i64.wrap (a1 + a3))) 1)) + a2)) - s6.1))))) else some (.inl false)) : Option (Sum (Bool) f_slices_symMergeCmpFunc_api_Lsa_fn49.R))).bind fun y12 => match y12 with | .inl s7 => ((((if s7 = true then ((f_slices_rotateCmpFunc_api_Lsa_fn49 a0 s6.1 a2 (IntKind.i64.wrap ((IntKind.i64.wrap ((IntKind.i64.wrap (shrI .u64 (IntKind.u64.wrap (IntKind.i64.wrap (a1 + a3))) 1)) + a2)) - s6.1))).bind fun t20 => (if t20.length = a0.length then some (.inl t20) else none)) else some (.inl a0)) : Option (Sum ((List T_api_Lsa)) f_slices_symMergeCmpFunc_api_Lsa_fn49.R))).bind fun y13 => match y13 with | .inl s8 => ((((if a1 < s6.1 then some (.inl (decide (s6.1 < (IntKind.i64.wrap (shrI .u64 (IntKind.u64.wrap (IntKind.i64.wrap (a1 + a3))) 1))))) else some (.inl false)) : Option (Sum (Bool) f_slices_symMergeCmpFunc_api_Lsa_fn49.R))).bind fun y14 => match y14 with | .inl s9 => (if s9 = true then (((f_slices_symMergeCmpFunc_api_Lsa_fn49 k_) s8 a1 s6.1 (IntKind.i64.wrap (shrI .u64 (IntKind.u64.wrap (IntKind.i64.wrap (a1 + a3))) 1))).bind fun t21 => (if t21.length = s8.length then (if (IntKind.i64.wrap (shrI .u64 (IntKind.u64.wrap (IntKind.i64.wrap (a1 + a3))) 1)) < (IntKind.i64.wrap ((IntKind.i64.wrap ((IntKind.i64.wrap (shrI .u64 (IntKind.u64.wrap (IntKind.i64.wrap (a1 + a3))) 1)) + a2)) - s6.1)) then (if (IntKind.i64.wrap ((IntKind.i64.wrap ((IntKind.i64.wrap (shrI .u64 (IntKind.u64.wrap (IntKind.i64.wrap (a1 + a3))) 1)) + a2)) - s6.1)) < a3 then (((f_slices_symMergeCmpFunc_api_Lsa_fn49 k_) t21 (IntKind.i64.wrap (shrI .u64 (IntKind.u64.wrap (IntKind.i64.wrap (a1 + a3))) 1)) (IntKind.i64.wrap ((IntKind.i64.wrap ((IntKind.i64.wrap (shrI .u64 (IntKind.u64.wrap (IntKind.i64.wrap (a1 + a3))) 1)) + a2)) - s6.1)) a3).bind fun t22 => (if t22.length = t21.length then some t22 else none)) else some t21) else some t21) else none)) else (if (IntKind.i64.wrap (shrI .u64 (IntKind.u64.wrap (IntKind.i64.wrap (a1 + a3))) 1)) < (IntKind.i64.wrap ((IntKind.i64.wrap ((IntKind.i64.wrap (shrI .u64 (IntKind.u64.wrap (IntKind.i64.wrap (a1 + a3))) 1)) + a2)) - s6.1)) then (if (IntKind.i64.wrap ((IntKind.i64.wrap ((IntKind.i64.wrap (shrI .u64 (IntKind.u64.wrap (IntKind.i64.wrap (a1 + a3))) 1)) + a2)) - s6.1)) < a3 then (((f_slices_symMergeCmpFunc_api_Lsa_fn49 k_) s8 (IntKind.i64.wrap (shrI .u64 (IntKind.u64.wrap (IntKind.i64.wrap (a1 + a3))) 1)) (IntKind.i64.wrap ((IntKind.i64.wrap ((IntKind.i64.wrap (shrI .u64 (IntKind.u64.wrap (IntKind.i64.wrap (a1 + a3))) 1)) + a2)) - s6.1)) a3).bind fun t23 => (if t23.length = s8.length then some t23 else none)) else some s8) else some s8)) | .inr r_ => some r_) | .inr r_ => some r_) | .inr r_ => some r_) | .inr r_ => some r_) | .inr r_ => some r_)))
set_option maxHeartbeats 1000000 in
theorem f_slices_symMergeCmpFunc_api_Lsa_fn49.ok (k_ : Nat) : ∀ {z w : World} {F G : Hp} (hG : G ⊆ F) {a0 : List T_api_Lsa} {A_a0 : Option Addr} {c_a0 : Nat} {L_a0 : Hp} {a1 : Int} {a2 : Int} {a3 : Int} {r : f_slices_symMergeCmpFunc_api_Lsa_fn49.R} (H : f_slices_symMergeCmpFunc_api_Lsa_fn49 k_ a0 a1 a2 a3 = some r) (HF : Fits z w (L_a0 ++ F)) (ho_a0 : OwnS (kShr G k_T_api_Lsa) L_a0 A_a0 c_a0 a0),
  Calls Try.prog 74 [.slice A_a0 a0.length c_a0, .int .i64 a1, .int .i64 a2, .int .i64 a3, .func (.func 49) [].toArray [].toArray].toArray w fun e w' => ∃ (N : Hp) (M0 : Hp), e = .returned (.tuple #[]) ∧ Fits z w' (M0 ++ (N ++ F)) ∧ OwnS (kShr (N ++ G) k_T_api_Lsa) M0 A_a0 c_a0 r := by
 induction k_ with
 | zero => intro z w F G hG a0 A_a0 c_a0 L_a0 a1 a2 a3 r H HF ho_a0; cases H
 | succ k_ ih_ =>
  intro z w F G hG a0 A_a0 c_a0 L_a0 a1 a2 a3 r H HF ho_a0
  rw [f_slices_symMergeCmpFunc_api_Lsa_fn49] at H
  refine enter0 Try.func74 rfl Try.ntmps74 rfl (E := [(0, .slice A_a0 a0.length c_a0), (1, .int .i64 a1), (2, .int .i64 a2), (3, .int .i64 a3), (4, .func (.func 49) [].toArray [].toArray)]) rfl ?_
  refine cSeq (fun K1 hK1 => ?_)
  refine cSeq (fun K2 hK2 => ?_)
  refine cRgn [] trivial ?_
  refine sL (mv rfl) rfl ?_
  refine sL (mv rfl) rfl ?_
  refine sL (bSub rfl rfl) rfl ?_
  refine sL (bEql rfl rfl) rfl ?_
  refine lE ?_
  refine kN (?_)
  refine hK2 _ _ ?_
  by_cases c1 : (IntKind.i64.wrap (a2 - a1)) = 1
  ·replace H := itT c1 H
   refine cSet (i := 28) rfl (dT c1) ?_
   refine cT rfl ?_
   refine cSeq (fun K3 hK3 => ?_)
   refine cRgn [] trivial ?_
   refine sL (mv rfl) rfl ?_
   refine sL (asg rfl) rfl ?_
   refine lE ?_
   refine kN (?_)
   refine hK3 _ _ ?_
   refine cSeq (fun K4 hK4 => ?_)
   refine cRgn [] trivial ?_
   refine sL (mv rfl) rfl ?_
   refine sL (asg rfl) rfl ?_
   refine lE ?_
   refine kN (?_)
   refine hK4 _ _ ?_
   refine cSeq (fun K5 hK5 => ?_)
   replace H := bnd H; obtain ⟨y1, J8, Ho1⟩ := H
   refine cLoopB (f_slices_symMergeCmpFunc_api_Lsa_fn49.b0 a0 a1) (fun (s1 : Int × Int) a w => Env 220 [(0, .slice A_a0 a0.length c_a0), (1, .int .i64 a1), (2, .int .i64 a2), (3, .int .i64 a3), (4, .func (.func 49) [].toArray [].toArray), (10, .int .i64 s1.1), (11, .int .i64 s1.2)] a ∧ Fits z w (L_a0 ++ F)) J8 (fun a hE => ⟨hE.keep (Keep.cons rfl (Keep.cons rfl (Keep.cons rfl (Keep.cons rfl (Keep.cons rfl (Keep.cons rfl (Keep.cons rfl (Keep.nil)))))))), HF⟩) ?_ ?_
   ·rintro s1 a w7 y2 ⟨hE, HF7⟩ H Hx1
    refine go_ hE ?_
    refine cSeq (fun K14 hK14 => ?_)
    refine cSeq (fun K15 hK15 => ?_)
    refine cRgn [] trivial ?_
    refine sL (mv rfl) rfl ?_
    refine sL (mv rfl) rfl ?_
    refine sL (bLss rfl rfl) rfl ?_
    refine lE ?_
    refine kN (?_)
    refine hK15 _ _ ?_
    by_cases c46 : s1.1 < s1.2
    ·replace H := itT c46 H
     refine cSet (i := 33) rfl (dT c46) ?_
     refine cT rfl ?_
     refine cSkip ?_
     refine kN (?_)
     refine hK14 _ _ ?_
     refine cBlock ?_
     refine cSeq (fun K16 hK16 => ?_)
     refine cRgn [] trivial ?_
     refine sL (mv rfl) rfl ?_
     refine sL (mv rfl) rfl ?_
     refine sL (bAdd rfl rfl) rfl ?_
     refine sL (cvI rfl Try.underlying3 Try.underlying57) rfl ?_
     refine sL (bShr rfl rfl (by decide)) rfl ?_
     refine sL (cvI rfl Try.underlying57 Try.underlying3) rfl ?_
     refine sL (asg rfl) rfl ?_
     refine lE ?_
     refine kN (?_)
     refine hK16 _ _ ?_
     refine cSeq (fun K17 hK17 => ?_)
     refine cDraw mo_ HF7 rfl (fun w => Fits z w (L_a0 ++ F)) (fun w9 HF9 => ?_)
     refine hT 0 rfl (by kernel_rfl) (fun w_ hS_ => mv rfl) HF9 rfl rfl ?_
     refine hT 1 rfl (by kernel_rfl) (fun w_ hS_ => mv rfl) HF9 rfl rfl ?_
     refine hT 2 rfl (by kernel_rfl) (fun w_ hS_ => mv rfl) HF9 rfl rfl ?_
     replace H := chk H; obtain ⟨c57, H⟩ := H
     replace H := chk H; obtain ⟨c58, H⟩ := H
     obtain ⟨g6, o6, e22, rfl, hk11, q11⟩ := RdS.at_ ho_a0.rd c57 c58
     obtain ⟨A31, c59, A32, c60, A33, c61, rfl, hr31, hr32, hr33⟩ := rd_T_api_Lsa hk11
     refine hT 3 rfl (by kernel_rfl) (fun w_ hS_ => ia rfl rfl Try.underlying24 ti44 c57 c58) HF9 rfl rfl ?_
     refine hT 4 rfl (by kernel_rfl) (fun w_ hS_ => ldA rfl ti44 rfl rfl (fun j v hj => hS_.cells (sub_h) (q11 j v hj))) HF9 rfl rfl ?_
     refine hT 5 rfl (by kernel_rfl) (fun w_ hS_ => mv rfl) HF9 rfl rfl ?_
     refine hT 6 rfl (by kernel_rfl) (fun w_ hS_ => mv rfl) HF9 rfl rfl ?_
     replace H := chk H; obtain ⟨c62, H⟩ := H
     replace H := chk H; obtain ⟨c63, H⟩ := H
     obtain ⟨e24, hk12, q12⟩ := RdS.at' ho_a0.rd c62 c63
     obtain ⟨A34, c64, A35, c65, A36, c66, rfl, hr34, hr35, hr36⟩ := rd_T_api_Lsa hk12
     refine hT 7 rfl (by kernel_rfl) (fun w_ hS_ => ia rfl rfl Try.underlying24 ti44 c62 c63) HF9 rfl rfl ?_
     refine hT 8 rfl (by kernel_rfl) (fun w_ hS_ => ldA rfl ti44 rfl rfl (fun j v hj => hS_.cells (sub_h) (q12 j v hj))) HF9 rfl rfl ?_
     refine h1 9 (by kernel_rfl) rfl ?_
     replace H := bnd H; obtain ⟨t6, J6, H⟩ := H
     refine qCall rfl gd0 isf49 rfl rfl rfl (f_topo_live_1.ok (a0 := (rd a0 (IntKind.i64.wrap (shrI .u64 (IntKind.u64.wrap (IntKind.i64.wrap (s1.1 + s1.2))) 1)))) (a1 := (rd a0 a1)) (sub_a hG) J6 HF9 (sub_a hG) hr31 (sub_a hG) hr32 (sub_a hG) hr33 (sub_a hG) hr34 (sub_a hG) hr35 (sub_a hG) hr36) ?_
     rintro _ w10 ⟨rfl, HF10⟩
     refine ⟨_, rfl, HF10, ?_⟩
     refine hT 10 rfl (by kernel_rfl) (fun w_ hS_ => bLss rfl rfl) HF10 rfl rfl ?_
     refine hEnd (by kernel_rfl) ?_
     refine kN (?_)
     refine hK17 _ _ ?_
     by_cases c67 : t6 < 0
     ·replace H := itT c67 H
      refine cSet (i := 50) rfl (dT c67) ?_
      refine cT rfl ?_
      refine cRgn [] trivial ?_
      refine sL (mv rfl) rfl ?_
      refine sL (bAdd rfl rfl) rfl ?_
      refine sL (asg rfl) rfl ?_
      refine lE ?_
      refine jN (kN (?_))
      exact ofEnv (fun a hE => ⟨_, (Option.some.inj H).symm, ⟨hE.keep (Keep.cons rfl (Keep.cons rfl (Keep.cons rfl (Keep.cons rfl (Keep.cons rfl (Keep.cons rfl (Keep.cons rfl (Keep.nil)))))))), HF10⟩⟩)
     replace H := itF c67 H
     refine cSet (i := 50) rfl (dF c67) ?_
     refine cF rfl ?_
     refine cRgn [] trivial ?_
     refine sL (mv rfl) rfl ?_
     refine sL (asg rfl) rfl ?_
     refine lE ?_
     refine jN (kN (?_))
     exact ofEnv (fun a hE => ⟨_, (Option.some.inj H).symm, ⟨hE.keep (Keep.cons rfl (Keep.cons rfl (Keep.cons rfl (Keep.cons rfl (Keep.cons rfl (Keep.cons rfl (Keep.cons rfl (Keep.nil)))))))), HF10⟩⟩)
    replace H := itF c46 H
    refine cSet (i := 33) rfl (dF c46) ?_
    refine cF rfl ?_
    refine cExit ?_
    refine kX (kX (jX (kN (?_))))
    exact ofEnv (fun a hE => ⟨_, (Option.some.inj H).symm, ⟨hE.keep (Keep.cons rfl (Keep.cons rfl (Keep.cons rfl (Keep.cons rfl (Keep.cons rfl (Keep.cons rfl (Keep.cons rfl (Keep.nil)))))))), HF7⟩⟩)
   rintro s1 a w11 rfl ⟨hE, HF11⟩
   replace H := Ho1
   refine go_k hE ?_
   refine kN (?_)
   refine hK5 _ _ ?_
   refine cSeq (fun K18 hK18 => ?_)
   refine cSeq (fun K19 hK19 => ?_)
   refine cRgn [] trivial ?_
   refine sL (mv rfl) rfl ?_
   refine sL (asg rfl) rfl ?_
   refine lE ?_
   refine kN (?_)
   refine hK19 _ _ ?_
   replace H := bnd H; obtain ⟨y3, J7, Ho2⟩ := H
   refine cLoopB (f_slices_symMergeCmpFunc_api_Lsa_fn49.b1 s1) (fun (s2 : Int × (List T_api_Lsa)) a w => ∃ (L10 : Hp), Env 220 [(0, .slice A_a0 s2.2.length c_a0), (1, .int .i64 a1), (2, .int .i64 a2), (3, .int .i64 a3), (4, .func (.func 49) [].toArray [].toArray), (10, .int .i64 s1.1), (13, .int .i64 s2.1)] a ∧ Fits z w (L10 ++ F) ∧ OwnS (kShr G k_T_api_Lsa) L10 A_a0 c_a0 s2.2) J7 (fun a hE => ⟨L_a0, hE.keep (Keep.cons rfl (Keep.cons rfl (Keep.cons rfl (Keep.cons rfl (Keep.cons rfl (Keep.cons rfl (Keep.cons rfl (Keep.nil)))))))), HF11, ho_a0⟩) ?_ ?_
   ·rintro s2 a w22 y4 ⟨L10, hE, HF28, ho10⟩ H Hx2
    refine go_ hE ?_
    refine cSeq (fun K26 hK26 => ?_)
    refine cSeq (fun K27 hK27 => ?_)
    refine cRgn [] trivial ?_
    refine sL (mv rfl) rfl ?_
    refine sL (mv rfl) rfl ?_
    refine sL (bSub rfl rfl) rfl ?_
    refine sL (bLss rfl rfl) rfl ?_
    refine lE ?_
    refine kN (?_)
    refine hK27 _ _ ?_
    by_cases c138 : s2.1 < (IntKind.i64.wrap (s1.1 - 1))
    ·replace H := itT c138 H
     refine cSet (i := 58) rfl (dT c138) ?_
     refine cT rfl ?_
     refine cSkip ?_
     refine kN (?_)
     refine hK26 _ _ ?_
     refine cSeq (fun K28 hK28 => ?_)
     refine cBlock ?_
     refine cDraw mo_ HF28 rfl (fun w => Fits z w F) (fun w25 HF31 => ?_)
     have HF32 := HF31.sublist (sl_da sR)
     refine hT 0 rfl (by kernel_rfl) (fun w_ hS_ => mv rfl) HF32 rfl rfl ?_
     refine hT 1 rfl (by kernel_rfl) (fun w_ hS_ => mv rfl) HF32 rfl rfl ?_
     refine hT 2 rfl (by kernel_rfl) (fun w_ hS_ => mv rfl) HF32 rfl rfl ?_
     refine hT 3 rfl (by kernel_rfl) (fun w_ hS_ => mv rfl) HF32 rfl rfl ?_
     refine hT 4 rfl (by kernel_rfl) (fun w_ hS_ => bAdd rfl rfl) HF32 rfl rfl ?_
     refine hT 5 rfl (by kernel_rfl) (fun w_ hS_ => mv rfl) HF32 rfl rfl ?_
     refine hT 6 rfl (by kernel_rfl) (fun w_ hS_ => mv rfl) HF32 rfl rfl ?_
     refine hT 7 rfl (by kernel_rfl) (fun w_ hS_ => bAdd rfl rfl) HF32 rfl rfl ?_
     replace H := chk H; obtain ⟨c156, H⟩ := H
     replace H := chk H; obtain ⟨c157, H⟩ := H
     obtain ⟨g12, o12, e66, rfl, hk33, q33⟩ := RdS.at_ ho10.rd c156 c157
     obtain ⟨A97, c158, A98, c159, A99, c160, rfl, hr97, hr98, hr99⟩ := rd_T_api_Lsa hk33
     refine hT 8 rfl (by kernel_rfl) (fun w_ hS_ => ia rfl rfl Try.underlying24 ti44 c156 c157) HF32 rfl rfl ?_
     refine hT 10 rfl (by kernel_rfl) (fun w_ hS_ => mv rfl) HF32 rfl rfl ?_
     refine hT 11 rfl (by kernel_rfl) (fun w_ hS_ => mv rfl) HF32 rfl rfl ?_
     replace H := chk H; obtain ⟨c161, H⟩ := H
     replace H := chk H; obtain ⟨c162, H⟩ := H
     obtain ⟨e68, hk34, q34⟩ := RdS.at' ho10.rd c161 c162
     obtain ⟨A100, c163, A101, c164, A102, c165, rfl, hr100, hr101, hr102⟩ := rd_T_api_Lsa hk34
     refine hT 12 rfl (by kernel_rfl) (fun w_ hS_ => ia rfl rfl Try.underlying24 ti44 c161 c162) HF32 rfl rfl ?_
     refine h2 9 13 (by kernel_rfl) rfl rfl ?_ ?_
     ·refine qL rfl gd0 (ldA rfl ti44 rfl rfl (fun j v hj => HF31.cells (sub_h) (q33 j v hj))) rfl HF32 ?_
      refine h1 13 (by kernel_rfl) rfl ?_
      refine qL rfl gd0 (ldA rfl ti44 rfl rfl (fun j v hj => HF31.cells (sub_h) (q34 j v hj))) rfl HF32 ?_
      obtain ⟨e70, hk35, q35⟩ := RdS.at' ho10.rd c161 c162
      obtain ⟨A103, c166, A104, c167, A105, c168, rfl, hr103, hr104, hr105⟩ := rd_T_api_Lsa hk35
      refine hT 14 rfl (by kernel_rfl) (fun w_ hS_ => ia rfl rfl Try.underlying24 ti44 c161 c162) HF32 rfl rfl ?_
      refine h1 15 (by kernel_rfl) rfl ?_
      refine qS rfl gd0 (oStE (K := (kShr G k_T_api_Lsa)) (c := c_a0) (off := 0) (y' := (rd s2.2 (IntKind.i64.wrap (s2.1 + 1)))) shrS HF31 ho10 c161 c162 rfl rfl ti44 rfl (ones rfl) (Nat.le_of_ble_eq_true rfl) (fun ci hci => shrAll hci rfl (mk_T_api_Lsa (x := (rd s2.2 (IntKind.i64.wrap (s2.1 + 1)))) (hr97) (hr98) (hr99)))) ?_
      rintro w26 ⟨L13, HF33, ho13⟩
      have HF34 := HF33.sublist (sl_da sR)
      refine ⟨HF34, ?_⟩
      refine hSet (i := 0) (v := .slice (some ⟨g12, o12, none⟩) (setI s2.2 s2.1 (rd s2.2 (IntKind.i64.wrap (s2.1 + 1)))).length c_a0) rfl (by simp only [len_setI]) ?_
      refine hSet (i := 61) (v := .slice (some ⟨g12, o12, none⟩) (setI s2.2 s2.1 (rd s2.2 (IntKind.i64.wrap (s2.1 + 1)))).length c_a0) rfl (by simp only [len_setI]) ?_
      refine hSet (i := 63) (v := .slice (some ⟨g12, o12, none⟩) (setI s2.2 s2.1 (rd s2.2 (IntKind.i64.wrap (s2.1 + 1)))).length c_a0) rfl (by simp only [len_setI]) ?_
      refine hSet (i := 66) (v := .slice (some ⟨g12, o12, none⟩) (setI s2.2 s2.1 (rd s2.2 (IntKind.i64.wrap (s2.1 + 1)))).length c_a0) rfl (by simp only [len_setI]) ?_
      refine hSet (i := 71) (v := .slice (some ⟨g12, o12, none⟩) (setI s2.2 s2.1 (rd s2.2 (IntKind.i64.wrap (s2.1 + 1)))).length c_a0) rfl (by simp only [len_setI]) ?_
      replace H := chk H; obtain ⟨c169, H⟩ := H
      obtain ⟨e72, hk36, q36⟩ := RdS.at' ho13.rd c156 c169
      obtain ⟨A106, c170, A107, c171, A108, c172, rfl, hr106, hr107, hr108⟩ := rd_T_api_Lsa hk36
      refine hT 16 rfl (by kernel_rfl) (fun w_ hS_ => ia rfl rfl Try.underlying24 ti44 c156 c169) HF34 rfl rfl ?_
      refine h1 17 (by kernel_rfl) rfl ?_
      refine qS rfl gd0 (oStE (K := (kShr G k_T_api_Lsa)) (c := c_a0) (off := 0) (y' := (rd s2.2 s2.1)) shrS HF33 ho13 c156 c169 rfl rfl ti44 rfl (ones rfl) (Nat.le_of_ble_eq_true rfl) (fun ci hci => shrAll hci rfl (mk_T_api_Lsa (x := (rd s2.2 s2.1)) (hr100) (hr101) (hr102)))) ?_
      rintro w27 ⟨L14, HF35, ho14⟩
      have HF36 := HF35.sublist (sl_da sR)
      refine ⟨HF36, ?_⟩
      refine hSet (i := 0) (v := .slice (some ⟨g12, o12, none⟩) (setI (setI s2.2 s2.1 (rd s2.2 (IntKind.i64.wrap (s2.1 + 1)))) (IntKind.i64.wrap (s2.1 + 1)) (rd s2.2 s2.1)).length c_a0) rfl (by simp only [len_setI]) ?_
      refine hSet (i := 61) (v := .slice (some ⟨g12, o12, none⟩) (setI (setI s2.2 s2.1 (rd s2.2 (IntKind.i64.wrap (s2.1 + 1)))) (IntKind.i64.wrap (s2.1 + 1)) (rd s2.2 s2.1)).length c_a0) rfl (by simp only [len_setI]) ?_
      refine hSet (i := 63) (v := .slice (some ⟨g12, o12, none⟩) (setI (setI s2.2 s2.1 (rd s2.2 (IntKind.i64.wrap (s2.1 + 1)))) (IntKind.i64.wrap (s2.1 + 1)) (rd s2.2 s2.1)).length c_a0) rfl (by simp only [len_setI]) ?_
      refine hSet (i := 66) (v := .slice (some ⟨g12, o12, none⟩) (setI (setI s2.2 s2.1 (rd s2.2 (IntKind.i64.wrap (s2.1 + 1)))) (IntKind.i64.wrap (s2.1 + 1)) (rd s2.2 s2.1)).length c_a0) rfl (by simp only [len_setI]) ?_
      refine hSet (i := 71) (v := .slice (some ⟨g12, o12, none⟩) (setI (setI s2.2 s2.1 (rd s2.2 (IntKind.i64.wrap (s2.1 + 1)))) (IntKind.i64.wrap (s2.1 + 1)) (rd s2.2 s2.1)).length c_a0) rfl (by simp only [len_setI]) ?_
      refine hEnd (by kernel_rfl) ?_
      refine jN (kN (?_))
      refine hK28 _ _ ?_
      refine cRgn [] trivial ?_
      refine sL (mv rfl) rfl ?_
      refine sL (bAdd rfl rfl) rfl ?_
      refine sL (asg rfl) rfl ?_
      refine lE ?_
      refine kN (?_)
      exact ofEnv (fun a hE => ⟨_, (Option.some.inj H).symm, ⟨L14, hE.keep (Keep.cons rfl (Keep.cons rfl (Keep.cons rfl (Keep.cons rfl (Keep.cons rfl (Keep.cons rfl (Keep.cons rfl (Keep.nil)))))))), HF35, ho14⟩⟩)
     refine qL rfl gd0 (ldA rfl ti44 rfl rfl (fun j v hj => HF31.cells (sub_h) (q34 j v hj))) rfl HF32 ?_
     refine h1 9 (by kernel_rfl) rfl ?_
     refine qL rfl gd0 (ldA rfl ti44 rfl rfl (fun j v hj => HF31.cells (sub_h) (q33 j v hj))) rfl HF32 ?_
     obtain ⟨e70, hk35, q35⟩ := RdS.at' ho10.rd c161 c162
     obtain ⟨A103, c166, A104, c167, A105, c168, rfl, hr103, hr104, hr105⟩ := rd_T_api_Lsa hk35
     refine hT 14 rfl (by kernel_rfl) (fun w_ hS_ => ia rfl rfl Try.underlying24 ti44 c161 c162) HF32 rfl rfl ?_
     refine h1 15 (by kernel_rfl) rfl ?_
     refine qS rfl gd0 (oStE (K := (kShr G k_T_api_Lsa)) (c := c_a0) (off := 0) (y' := (rd s2.2 (IntKind.i64.wrap (s2.1 + 1)))) shrS HF31 ho10 c161 c162 rfl rfl ti44 rfl (ones rfl) (Nat.le_of_ble_eq_true rfl) (fun ci hci => shrAll hci rfl (mk_T_api_Lsa (x := (rd s2.2 (IntKind.i64.wrap (s2.1 + 1)))) (hr97) (hr98) (hr99)))) ?_
     rintro w26 ⟨L13, HF33, ho13⟩
     have HF34 := HF33.sublist (sl_da sR)
     refine ⟨HF34, ?_⟩
     refine hSet (i := 0) (v := .slice (some ⟨g12, o12, none⟩) (setI s2.2 s2.1 (rd s2.2 (IntKind.i64.wrap (s2.1 + 1)))).length c_a0) rfl (by simp only [len_setI]) ?_
     refine hSet (i := 61) (v := .slice (some ⟨g12, o12, none⟩) (setI s2.2 s2.1 (rd s2.2 (IntKind.i64.wrap (s2.1 + 1)))).length c_a0) rfl (by simp only [len_setI]) ?_
     refine hSet (i := 63) (v := .slice (some ⟨g12, o12, none⟩) (setI s2.2 s2.1 (rd s2.2 (IntKind.i64.wrap (s2.1 + 1)))).length c_a0) rfl (by simp only [len_setI]) ?_
     refine hSet (i := 66) (v := .slice (some ⟨g12, o12, none⟩) (setI s2.2 s2.1 (rd s2.2 (IntKind.i64.wrap (s2.1 + 1)))).length c_a0) rfl (by simp only [len_setI]) ?_
     refine hSet (i := 71) (v := .slice (some ⟨g12, o12, none⟩) (setI s2.2 s2.1 (rd s2.2 (IntKind.i64.wrap (s2.1 + 1)))).length c_a0) rfl (by simp only [len_setI]) ?_
     replace H := chk H; obtain ⟨c169, H⟩ := H
     obtain ⟨e72, hk36, q36⟩ := RdS.at' ho13.rd c156 c169
     obtain ⟨A106, c170, A107, c171, A108, c172, rfl, hr106, hr107, hr108⟩ := rd_T_api_Lsa hk36
     refine hT 16 rfl (by kernel_rfl) (fun w_ hS_ => ia rfl rfl Try.underlying24 ti44 c156 c169) HF34 rfl rfl ?_
     refine h1 17 (by kernel_rfl) rfl ?_
     refine qS rfl gd0 (oStE (K := (kShr G k_T_api_Lsa)) (c := c_a0) (off := 0) (y' := (rd s2.2 s2.1)) shrS HF33 ho13 c156 c169 rfl rfl ti44 rfl (ones rfl) (Nat.le_of_ble_eq_true rfl) (fun ci hci => shrAll hci rfl (mk_T_api_Lsa (x := (rd s2.2 s2.1)) (hr100) (hr101) (hr102)))) ?_
     rintro w27 ⟨L14, HF35, ho14⟩
     have HF36 := HF35.sublist (sl_da sR)
     refine ⟨HF36, ?_⟩
     refine hSet (i := 0) (v := .slice (some ⟨g12, o12, none⟩) (setI (setI s2.2 s2.1 (rd s2.2 (IntKind.i64.wrap (s2.1 + 1)))) (IntKind.i64.wrap (s2.1 + 1)) (rd s2.2 s2.1)).length c_a0) rfl (by simp only [len_setI]) ?_
     refine hSet (i := 61) (v := .slice (some ⟨g12, o12, none⟩) (setI (setI s2.2 s2.1 (rd s2.2 (IntKind.i64.wrap (s2.1 + 1)))) (IntKind.i64.wrap (s2.1 + 1)) (rd s2.2 s2.1)).length c_a0) rfl (by simp only [len_setI]) ?_
     refine hSet (i := 63) (v := .slice (some ⟨g12, o12, none⟩) (setI (setI s2.2 s2.1 (rd s2.2 (IntKind.i64.wrap (s2.1 + 1)))) (IntKind.i64.wrap (s2.1 + 1)) (rd s2.2 s2.1)).length c_a0) rfl (by simp only [len_setI]) ?_
     refine hSet (i := 66) (v := .slice (some ⟨g12, o12, none⟩) (setI (setI s2.2 s2.1 (rd s2.2 (IntKind.i64.wrap (s2.1 + 1)))) (IntKind.i64.wrap (s2.1 + 1)) (rd s2.2 s2.1)).length c_a0) rfl (by simp only [len_setI]) ?_
     refine hSet (i := 71) (v := .slice (some ⟨g12, o12, none⟩) (setI (setI s2.2 s2.1 (rd s2.2 (IntKind.i64.wrap (s2.1 + 1)))) (IntKind.i64.wrap (s2.1 + 1)) (rd s2.2 s2.1)).length c_a0) rfl (by simp only [len_setI]) ?_
     refine hEnd (by kernel_rfl) ?_
     refine jN (kN (?_))
     refine hK28 _ _ ?_
     refine cRgn [] trivial ?_
     refine sL (mv rfl) rfl ?_
     refine sL (bAdd rfl rfl) rfl ?_
     refine sL (asg rfl) rfl ?_
     refine lE ?_
     refine kN (?_)
     exact ofEnv (fun a hE => ⟨_, (Option.some.inj H).symm, ⟨L14, hE.keep (Keep.cons rfl (Keep.cons rfl (Keep.cons rfl (Keep.cons rfl (Keep.cons rfl (Keep.cons rfl (Keep.cons rfl (Keep.nil)))))))), HF35, ho14⟩⟩)
    replace H := itF c138 H
    refine cSet (i := 58) rfl (dF c138) ?_
    refine cF rfl ?_
    refine cExit ?_
    refine kX (kX (jX (kN (?_))))
    exact ofEnv (fun a hE => ⟨_, (Option.some.inj H).symm, ⟨L10, hE.keep (Keep.cons rfl (Keep.cons rfl (Keep.cons rfl (Keep.cons rfl (Keep.cons rfl (Keep.cons rfl (Keep.cons rfl (Keep.nil)))))))), HF28, ho10⟩⟩)
   rintro s2 a w28 rfl ⟨L10, hE, HF37, ho10⟩
   replace H := Ho2
   refine go_k hE ?_
   refine kN (?_)
   refine hK18 _ _ ?_
   refine cRet ?_
   obtain rfl := Option.some.inj H
   refine kR (?_)
   refine ret0 rfl ?_
   exact ⟨[], L10, rfl, HF37, ho10⟩
  replace H := itF c1 H
  refine cSet (i := 28) rfl (dF c1) ?_
  refine cF rfl ?_
  refine cSkip ?_
  refine kN (?_)
  refine hK1 _ _ ?_
  refine cSeq (fun K29 hK29 => ?_)
  refine cSeq (fun K30 hK30 => ?_)
  refine cRgn [] trivial ?_
  refine sL (mv rfl) rfl ?_
  refine sL (mv rfl) rfl ?_
  refine sL (bSub rfl rfl) rfl ?_
  refine sL (bEql rfl rfl) rfl ?_
  refine lE ?_
  refine kN (?_)
  refine hK30 _ _ ?_
  by_cases c173 : (IntKind.i64.wrap (a3 - a2)) = 1
  ·replace H := itT c173 H
   refine cSet (i := 80) rfl (dT c173) ?_
   refine cT rfl ?_
   refine cSeq (fun K31 hK31 => ?_)
   refine cRgn [] trivial ?_
   refine sL (mv rfl) rfl ?_
   refine sL (asg rfl) rfl ?_
   refine lE ?_
   refine kN (?_)
   refine hK31 _ _ ?_
   refine cSeq (fun K32 hK32 => ?_)
   refine cRgn [] trivial ?_
   refine sL (mv rfl) rfl ?_
   refine sL (asg rfl) rfl ?_
   refine lE ?_
   refine kN (?_)
   refine hK32 _ _ ?_
   refine cSeq (fun K33 hK33 => ?_)
   replace H := bnd H; obtain ⟨y5, J16, Ho3⟩ := H
   refine cLoopB (f_slices_symMergeCmpFunc_api_Lsa_fn49.b2 a0 a2) (fun (s3 : Int × Int) a w => Env 220 [(0, .slice A_a0 a0.length c_a0), (1, .int .i64 a1), (2, .int .i64 a2), (3, .int .i64 a3), (4, .func (.func 49) [].toArray [].toArray), (14, .int .i64 s3.1), (15, .int .i64 s3.2)] a ∧ Fits z w (L_a0 ++ F)) J16 (fun a hE => ⟨hE.keep (Keep.cons rfl (Keep.cons rfl (Keep.cons rfl (Keep.cons rfl (Keep.cons rfl (Keep.cons rfl (Keep.cons rfl (Keep.nil)))))))), HF⟩) ?_ ?_
   ·rintro s3 a w35 y6 ⟨hE, HF44⟩ H Hx3
    refine go_ hE ?_
    refine cSeq (fun K42 hK42 => ?_)
    refine cSeq (fun K43 hK43 => ?_)
    refine cRgn [] trivial ?_
    refine sL (mv rfl) rfl ?_
    refine sL (mv rfl) rfl ?_
    refine sL (bLss rfl rfl) rfl ?_
    refine lE ?_
    refine kN (?_)
    refine hK43 _ _ ?_
    by_cases c218 : s3.1 < s3.2
    ·replace H := itT c218 H
     refine cSet (i := 85) rfl (dT c218) ?_
     refine cT rfl ?_
     refine cSkip ?_
     refine kN (?_)
     refine hK42 _ _ ?_
     refine cBlock ?_
     refine cSeq (fun K44 hK44 => ?_)
     refine cRgn [] trivial ?_
     refine sL (mv rfl) rfl ?_
     refine sL (mv rfl) rfl ?_
     refine sL (bAdd rfl rfl) rfl ?_
     refine sL (cvI rfl Try.underlying3 Try.underlying57) rfl ?_
     refine sL (bShr rfl rfl (by decide)) rfl ?_
     refine sL (cvI rfl Try.underlying57 Try.underlying3) rfl ?_
     refine sL (asg rfl) rfl ?_
     refine lE ?_
     refine kN (?_)
     refine hK44 _ _ ?_
     refine cSeq (fun K45 hK45 => ?_)
     refine cDraw mo_ HF44 rfl (fun w => Fits z w (L_a0 ++ F)) (fun w37 HF46 => ?_)
     refine hT 0 rfl (by kernel_rfl) (fun w_ hS_ => mv rfl) HF46 rfl rfl ?_
     refine hT 1 rfl (by kernel_rfl) (fun w_ hS_ => mv rfl) HF46 rfl rfl ?_
     refine hT 2 rfl (by kernel_rfl) (fun w_ hS_ => mv rfl) HF46 rfl rfl ?_
     replace H := chk H; obtain ⟨c229, H⟩ := H
     replace H := chk H; obtain ⟨c230, H⟩ := H
     obtain ⟨g18, o18, e94, rfl, hk47, q47⟩ := RdS.at_ ho_a0.rd c229 c230
     obtain ⟨A139, c231, A140, c232, A141, c233, rfl, hr139, hr140, hr141⟩ := rd_T_api_Lsa hk47
     refine hT 3 rfl (by kernel_rfl) (fun w_ hS_ => ia rfl rfl Try.underlying24 ti44 c229 c230) HF46 rfl rfl ?_
     refine hT 4 rfl (by kernel_rfl) (fun w_ hS_ => ldA rfl ti44 rfl rfl (fun j v hj => hS_.cells (sub_h) (q47 j v hj))) HF46 rfl rfl ?_
     refine hT 5 rfl (by kernel_rfl) (fun w_ hS_ => mv rfl) HF46 rfl rfl ?_
     refine hT 6 rfl (by kernel_rfl) (fun w_ hS_ => mv rfl) HF46 rfl rfl ?_
     replace H := chk H; obtain ⟨c234, H⟩ := H
     replace H := chk H; obtain ⟨c235, H⟩ := H
     obtain ⟨e96, hk48, q48⟩ := RdS.at' ho_a0.rd c234 c235
     obtain ⟨A142, c236, A143, c237, A144, c238, rfl, hr142, hr143, hr144⟩ := rd_T_api_Lsa hk48
     refine hT 7 rfl (by kernel_rfl) (fun w_ hS_ => ia rfl rfl Try.underlying24 ti44 c234 c235) HF46 rfl rfl ?_
     refine hT 8 rfl (by kernel_rfl) (fun w_ hS_ => ldA rfl ti44 rfl rfl (fun j v hj => hS_.cells (sub_h) (q48 j v hj))) HF46 rfl rfl ?_
     refine h1 9 (by kernel_rfl) rfl ?_
     replace H := bnd H; obtain ⟨t12, J14, H⟩ := H
     refine qCall rfl gd0 isf49 rfl rfl rfl (f_topo_live_1.ok (a0 := (rd a0 a2)) (a1 := (rd a0 (IntKind.i64.wrap (shrI .u64 (IntKind.u64.wrap (IntKind.i64.wrap (s3.1 + s3.2))) 1)))) (sub_a hG) J14 HF46 (sub_a hG) hr139 (sub_a hG) hr140 (sub_a hG) hr141 (sub_a hG) hr142 (sub_a hG) hr143 (sub_a hG) hr144) ?_
     rintro _ w38 ⟨rfl, HF47⟩
     refine ⟨_, rfl, HF47, ?_⟩
     refine hT 10 rfl (by kernel_rfl) (fun w_ hS_ => bLss rfl rfl) HF47 rfl rfl ?_
     refine hT 11 rfl (by kernel_rfl) (fun w_ hS_ => uNot rfl) HF47 rfl rfl ?_
     refine hEnd (by kernel_rfl) ?_
     refine kN (?_)
     refine hK45 _ _ ?_
     by_cases c239 : t12 < 0
     ·replace H := itT c239 H
      refine cSet (i := 103) rfl (nF c239) ?_
      refine cF rfl ?_
      refine cRgn [] trivial ?_
      refine sL (mv rfl) rfl ?_
      refine sL (asg rfl) rfl ?_
      refine lE ?_
      refine jN (kN (?_))
      exact ofEnv (fun a hE => ⟨_, (Option.some.inj H).symm, ⟨hE.keep (Keep.cons rfl (Keep.cons rfl (Keep.cons rfl (Keep.cons rfl (Keep.cons rfl (Keep.cons rfl (Keep.cons rfl (Keep.nil)))))))), HF47⟩⟩)
     replace H := itF c239 H
     refine cSet (i := 103) rfl (nT c239) ?_
     refine cT rfl ?_
     refine cRgn [] trivial ?_
     refine sL (mv rfl) rfl ?_
     refine sL (bAdd rfl rfl) rfl ?_
     refine sL (asg rfl) rfl ?_
     refine lE ?_
     refine jN (kN (?_))
     exact ofEnv (fun a hE => ⟨_, (Option.some.inj H).symm, ⟨hE.keep (Keep.cons rfl (Keep.cons rfl (Keep.cons rfl (Keep.cons rfl (Keep.cons rfl (Keep.cons rfl (Keep.cons rfl (Keep.nil)))))))), HF47⟩⟩)
    replace H := itF c218 H
    refine cSet (i := 85) rfl (dF c218) ?_
    refine cF rfl ?_
    refine cExit ?_
    refine kX (kX (jX (kN (?_))))
    exact ofEnv (fun a hE => ⟨_, (Option.some.inj H).symm, ⟨hE.keep (Keep.cons rfl (Keep.cons rfl (Keep.cons rfl (Keep.cons rfl (Keep.cons rfl (Keep.cons rfl (Keep.cons rfl (Keep.nil)))))))), HF44⟩⟩)
   rintro s3 a w39 rfl ⟨hE, HF48⟩
   replace H := Ho3
   refine go_k hE ?_
   refine kN (?_)
   refine hK33 _ _ ?_
   refine cSeq (fun K46 hK46 => ?_)
   refine cSeq (fun K47 hK47 => ?_)
   refine cRgn [] trivial ?_
   refine sL (mv rfl) rfl ?_
   refine sL (asg rfl) rfl ?_
   refine lE ?_
   refine kN (?_)
   refine hK47 _ _ ?_
   replace H := bnd H; obtain ⟨y7, J15, Ho4⟩ := H
   refine cLoopB (f_slices_symMergeCmpFunc_api_Lsa_fn49.b3 s3) (fun (s4 : Int × (List T_api_Lsa)) a w => ∃ (L24 : Hp), Env 220 [(0, .slice A_a0 s4.2.length c_a0), (1, .int .i64 a1), (2, .int .i64 a2), (3, .int .i64 a3), (4, .func (.func 49) [].toArray [].toArray), (14, .int .i64 s3.1), (17, .int .i64 s4.1)] a ∧ Fits z w (L24 ++ F) ∧ OwnS (kShr G k_T_api_Lsa) L24 A_a0 c_a0 s4.2) J15 (fun a hE => ⟨L_a0, hE.keep (Keep.cons rfl (Keep.cons rfl (Keep.cons rfl (Keep.cons rfl (Keep.cons rfl (Keep.cons rfl (Keep.cons rfl (Keep.nil)))))))), HF48, ho_a0⟩) ?_ ?_
   ·rintro s4 a w50 y8 ⟨L24, hE, HF65, ho24⟩ H Hx4
    refine go_ hE ?_
    refine cSeq (fun K54 hK54 => ?_)
    refine cSeq (fun K55 hK55 => ?_)
    refine cRgn [] trivial ?_
    refine sL (mv rfl) rfl ?_
    refine sL (mv rfl) rfl ?_
    refine sL (bGtr rfl rfl) rfl ?_
    refine lE ?_
    refine kN (?_)
    refine hK55 _ _ ?_
    by_cases c310 : s3.1 < s4.1
    ·replace H := itT c310 H
     refine cSet (i := 110) rfl (dT c310) ?_
     refine cT rfl ?_
     refine cSkip ?_
     refine kN (?_)
     refine hK54 _ _ ?_
     refine cSeq (fun K56 hK56 => ?_)
     refine cBlock ?_
     refine cDraw mo_ HF65 rfl (fun w => Fits z w F) (fun w53 HF68 => ?_)
     have HF69 := HF68.sublist (sl_da sR)
     refine hT 0 rfl (by kernel_rfl) (fun w_ hS_ => mv rfl) HF69 rfl rfl ?_
     refine hT 1 rfl (by kernel_rfl) (fun w_ hS_ => mv rfl) HF69 rfl rfl ?_
     refine hT 2 rfl (by kernel_rfl) (fun w_ hS_ => mv rfl) HF69 rfl rfl ?_
     refine hT 3 rfl (by kernel_rfl) (fun w_ hS_ => mv rfl) HF69 rfl rfl ?_
     refine hT 4 rfl (by kernel_rfl) (fun w_ hS_ => bSub rfl rfl) HF69 rfl rfl ?_
     refine hT 5 rfl (by kernel_rfl) (fun w_ hS_ => mv rfl) HF69 rfl rfl ?_
     refine hT 6 rfl (by kernel_rfl) (fun w_ hS_ => mv rfl) HF69 rfl rfl ?_
     refine hT 7 rfl (by kernel_rfl) (fun w_ hS_ => bSub rfl rfl) HF69 rfl rfl ?_
     replace H := chk H; obtain ⟨c328, H⟩ := H
     replace H := chk H; obtain ⟨c329, H⟩ := H
     obtain ⟨g24, o24, e138, rfl, hk69, q69⟩ := RdS.at_ ho24.rd c328 c329
     obtain ⟨A205, c330, A206, c331, A207, c332, rfl, hr205, hr206, hr207⟩ := rd_T_api_Lsa hk69
     refine hT 8 rfl (by kernel_rfl) (fun w_ hS_ => ia rfl rfl Try.underlying24 ti44 c328 c329) HF69 rfl rfl ?_
     refine hT 10 rfl (by kernel_rfl) (fun w_ hS_ => mv rfl) HF69 rfl rfl ?_
     refine hT 11 rfl (by kernel_rfl) (fun w_ hS_ => mv rfl) HF69 rfl rfl ?_
     replace H := chk H; obtain ⟨c333, H⟩ := H
     replace H := chk H; obtain ⟨c334, H⟩ := H
     obtain ⟨e140, hk70, q70⟩ := RdS.at' ho24.rd c333 c334
     obtain ⟨A208, c335, A209, c336, A210, c337, rfl, hr208, hr209, hr210⟩ := rd_T_api_Lsa hk70
     refine hT 12 rfl (by kernel_rfl) (fun w_ hS_ => ia rfl rfl Try.underlying24 ti44 c333 c334) HF69 rfl rfl ?_
     refine h2 9 13 (by kernel_rfl) rfl rfl ?_ ?_
     ·refine qL rfl gd0 (ldA rfl ti44 rfl rfl (fun j v hj => HF68.cells (sub_h) (q69 j v hj))) rfl HF69 ?_
      refine h1 13 (by kernel_rfl) rfl ?_
      refine qL rfl gd0 (ldA rfl ti44 rfl rfl (fun j v hj => HF68.cells (sub_h) (q70 j v hj))) rfl HF69 ?_
      obtain ⟨e142, hk71, q71⟩ := RdS.at' ho24.rd c333 c334
      obtain ⟨A211, c338, A212, c339, A213, c340, rfl, hr211, hr212, hr213⟩ := rd_T_api_Lsa hk71
      refine hT 14 rfl (by kernel_rfl) (fun w_ hS_ => ia rfl rfl Try.underlying24 ti44 c333 c334) HF69 rfl rfl ?_
      refine h1 15 (by kernel_rfl) rfl ?_
      refine qS rfl gd0 (oStE (K := (kShr G k_T_api_Lsa)) (c := c_a0) (off := 0) (y' := (rd s4.2 (IntKind.i64.wrap (s4.1 - 1)))) shrS HF68 ho24 c333 c334 rfl rfl ti44 rfl (ones rfl) (Nat.le_of_ble_eq_true rfl) (fun ci hci => shrAll hci rfl (mk_T_api_Lsa (x := (rd s4.2 (IntKind.i64.wrap (s4.1 - 1)))) (hr205) (hr206) (hr207)))) ?_
      rintro w54 ⟨L27, HF70, ho27⟩
      have HF71 := HF70.sublist (sl_da sR)
      refine ⟨HF71, ?_⟩
      refine hSet (i := 0) (v := .slice (some ⟨g24, o24, none⟩) (setI s4.2 s4.1 (rd s4.2 (IntKind.i64.wrap (s4.1 - 1)))).length c_a0) rfl (by simp only [len_setI]) ?_
      refine hSet (i := 113) (v := .slice (some ⟨g24, o24, none⟩) (setI s4.2 s4.1 (rd s4.2 (IntKind.i64.wrap (s4.1 - 1)))).length c_a0) rfl (by simp only [len_setI]) ?_
      refine hSet (i := 115) (v := .slice (some ⟨g24, o24, none⟩) (setI s4.2 s4.1 (rd s4.2 (IntKind.i64.wrap (s4.1 - 1)))).length c_a0) rfl (by simp only [len_setI]) ?_
      refine hSet (i := 118) (v := .slice (some ⟨g24, o24, none⟩) (setI s4.2 s4.1 (rd s4.2 (IntKind.i64.wrap (s4.1 - 1)))).length c_a0) rfl (by simp only [len_setI]) ?_
      refine hSet (i := 123) (v := .slice (some ⟨g24, o24, none⟩) (setI s4.2 s4.1 (rd s4.2 (IntKind.i64.wrap (s4.1 - 1)))).length c_a0) rfl (by simp only [len_setI]) ?_
      replace H := chk H; obtain ⟨c341, H⟩ := H
      obtain ⟨e144, hk72, q72⟩ := RdS.at' ho27.rd c328 c341
      obtain ⟨A214, c342, A215, c343, A216, c344, rfl, hr214, hr215, hr216⟩ := rd_T_api_Lsa hk72
      refine hT 16 rfl (by kernel_rfl) (fun w_ hS_ => ia rfl rfl Try.underlying24 ti44 c328 c341) HF71 rfl rfl ?_
      refine h1 17 (by kernel_rfl) rfl ?_
      refine qS rfl gd0 (oStE (K := (kShr G k_T_api_Lsa)) (c := c_a0) (off := 0) (y' := (rd s4.2 s4.1)) shrS HF70 ho27 c328 c341 rfl rfl ti44 rfl (ones rfl) (Nat.le_of_ble_eq_true rfl) (fun ci hci => shrAll hci rfl (mk_T_api_Lsa (x := (rd s4.2 s4.1)) (hr208) (hr209) (hr210)))) ?_
      rintro w55 ⟨L28, HF72, ho28⟩
      have HF73 := HF72.sublist (sl_da sR)
      refine ⟨HF73, ?_⟩
      refine hSet (i := 0) (v := .slice (some ⟨g24, o24, none⟩) (setI (setI s4.2 s4.1 (rd s4.2 (IntKind.i64.wrap (s4.1 - 1)))) (IntKind.i64.wrap (s4.1 - 1)) (rd s4.2 s4.1)).length c_a0) rfl (by simp only [len_setI]) ?_
      refine hSet (i := 113) (v := .slice (some ⟨g24, o24, none⟩) (setI (setI s4.2 s4.1 (rd s4.2 (IntKind.i64.wrap (s4.1 - 1)))) (IntKind.i64.wrap (s4.1 - 1)) (rd s4.2 s4.1)).length c_a0) rfl (by simp only [len_setI]) ?_
      refine hSet (i := 115) (v := .slice (some ⟨g24, o24, none⟩) (setI (setI s4.2 s4.1 (rd s4.2 (IntKind.i64.wrap (s4.1 - 1)))) (IntKind.i64.wrap (s4.1 - 1)) (rd s4.2 s4.1)).length c_a0) rfl (by simp only [len_setI]) ?_
      refine hSet (i := 118) (v := .slice (some ⟨g24, o24, none⟩) (setI (setI s4.2 s4.1 (rd s4.2 (IntKind.i64.wrap (s4.1 - 1)))) (IntKind.i64.wrap (s4.1 - 1)) (rd s4.2 s4.1)).length c_a0) rfl (by simp only [len_setI]) ?_
      refine hSet (i := 123) (v := .slice (some ⟨g24, o24, none⟩) (setI (setI s4.2 s4.1 (rd s4.2 (IntKind.i64.wrap (s4.1 - 1)))) (IntKind.i64.wrap (s4.1 - 1)) (rd s4.2 s4.1)).length c_a0) rfl (by simp only [len_setI]) ?_
      refine hEnd (by kernel_rfl) ?_
      refine jN (kN (?_))
      refine hK56 _ _ ?_
      refine cRgn [] trivial ?_
      refine sL (mv rfl) rfl ?_
      refine sL (bSub rfl rfl) rfl ?_
      refine sL (asg rfl) rfl ?_
      refine lE ?_
      refine kN (?_)
      exact ofEnv (fun a hE => ⟨_, (Option.some.inj H).symm, ⟨L28, hE.keep (Keep.cons rfl (Keep.cons rfl (Keep.cons rfl (Keep.cons rfl (Keep.cons rfl (Keep.cons rfl (Keep.cons rfl (Keep.nil)))))))), HF72, ho28⟩⟩)
     refine qL rfl gd0 (ldA rfl ti44 rfl rfl (fun j v hj => HF68.cells (sub_h) (q70 j v hj))) rfl HF69 ?_
     refine h1 9 (by kernel_rfl) rfl ?_
     refine qL rfl gd0 (ldA rfl ti44 rfl rfl (fun j v hj => HF68.cells (sub_h) (q69 j v hj))) rfl HF69 ?_
     obtain ⟨e142, hk71, q71⟩ := RdS.at' ho24.rd c333 c334
     obtain ⟨A211, c338, A212, c339, A213, c340, rfl, hr211, hr212, hr213⟩ := rd_T_api_Lsa hk71
     refine hT 14 rfl (by kernel_rfl) (fun w_ hS_ => ia rfl rfl Try.underlying24 ti44 c333 c334) HF69 rfl rfl ?_
     refine h1 15 (by kernel_rfl) rfl ?_
     refine qS rfl gd0 (oStE (K := (kShr G k_T_api_Lsa)) (c := c_a0) (off := 0) (y' := (rd s4.2 (IntKind.i64.wrap (s4.1 - 1)))) shrS HF68 ho24 c333 c334 rfl rfl ti44 rfl (ones rfl) (Nat.le_of_ble_eq_true rfl) (fun ci hci => shrAll hci rfl (mk_T_api_Lsa (x := (rd s4.2 (IntKind.i64.wrap (s4.1 - 1)))) (hr205) (hr206) (hr207)))) ?_
     rintro w54 ⟨L27, HF70, ho27⟩
     have HF71 := HF70.sublist (sl_da sR)
     refine ⟨HF71, ?_⟩
     refine hSet (i := 0) (v := .slice (some ⟨g24, o24, none⟩) (setI s4.2 s4.1 (rd s4.2 (IntKind.i64.wrap (s4.1 - 1)))).length c_a0) rfl (by simp only [len_setI]) ?_
     refine hSet (i := 113) (v := .slice (some ⟨g24, o24, none⟩) (setI s4.2 s4.1 (rd s4.2 (IntKind.i64.wrap (s4.1 - 1)))).length c_a0) rfl (by simp only [len_setI]) ?_
     refine hSet (i := 115) (v := .slice (some ⟨g24, o24, none⟩) (setI s4.2 s4.1 (rd s4.2 (IntKind.i64.wrap (s4.1 - 1)))).length c_a0) rfl (by simp only [len_setI]) ?_
     refine hSet (i := 118) (v := .slice (some ⟨g24, o24, none⟩) (setI s4.2 s4.1 (rd s4.2 (IntKind.i64.wrap (s4.1 - 1)))).length c_a0) rfl (by simp only [len_setI]) ?_
     refine hSet (i := 123) (v := .slice (some ⟨g24, o24, none⟩) (setI s4.2 s4.1 (rd s4.2 (IntKind.i64.wrap (s4.1 - 1)))).length c_a0) rfl (by simp only [len_setI]) ?_
     replace H := chk H; obtain ⟨c341, H⟩ := H
     obtain ⟨e144, hk72, q72⟩ := RdS.at' ho27.rd c328 c341
     obtain ⟨A214, c342, A215, c343, A216, c344, rfl, hr214, hr215, hr216⟩ := rd_T_api_Lsa hk72
     refine hT 16 rfl (by kernel_rfl) (fun w_ hS_ => ia rfl rfl Try.underlying24 ti44 c328 c341) HF71 rfl rfl ?_
     refine h1 17 (by kernel_rfl) rfl ?_
     refine qS rfl gd0 (oStE (K := (kShr G k_T_api_Lsa)) (c := c_a0) (off := 0) (y' := (rd s4.2 s4.1)) shrS HF70 ho27 c328 c341 rfl rfl ti44 rfl (ones rfl) (Nat.le_of_ble_eq_true rfl) (fun ci hci => shrAll hci rfl (mk_T_api_Lsa (x := (rd s4.2 s4.1)) (hr208) (hr209) (hr210)))) ?_
     rintro w55 ⟨L28, HF72, ho28⟩
     have HF73 := HF72.sublist (sl_da sR)
     refine ⟨HF73, ?_⟩
     refine hSet (i := 0) (v := .slice (some ⟨g24, o24, none⟩) (setI (setI s4.2 s4.1 (rd s4.2 (IntKind.i64.wrap (s4.1 - 1)))) (IntKind.i64.wrap (s4.1 - 1)) (rd s4.2 s4.1)).length c_a0) rfl (by simp only [len_setI]) ?_
     refine hSet (i := 113) (v := .slice (some ⟨g24, o24, none⟩) (setI (setI s4.2 s4.1 (rd s4.2 (IntKind.i64.wrap (s4.1 - 1)))) (IntKind.i64.wrap (s4.1 - 1)) (rd s4.2 s4.1)).length c_a0) rfl (by simp only [len_setI]) ?_
     refine hSet (i := 115) (v := .slice (some ⟨g24, o24, none⟩) (setI (setI s4.2 s4.1 (rd s4.2 (IntKind.i64.wrap (s4.1 - 1)))) (IntKind.i64.wrap (s4.1 - 1)) (rd s4.2 s4.1)).length c_a0) rfl (by simp only [len_setI]) ?_
     refine hSet (i := 118) (v := .slice (some ⟨g24, o24, none⟩) (setI (setI s4.2 s4.1 (rd s4.2 (IntKind.i64.wrap (s4.1 - 1)))) (IntKind.i64.wrap (s4.1 - 1)) (rd s4.2 s4.1)).length c_a0) rfl (by simp only [len_setI]) ?_
     refine hSet (i := 123) (v := .slice (some ⟨g24, o24, none⟩) (setI (setI s4.2 s4.1 (rd s4.2 (IntKind.i64.wrap (s4.1 - 1)))) (IntKind.i64.wrap (s4.1 - 1)) (rd s4.2 s4.1)).length c_a0) rfl (by simp only [len_setI]) ?_
     refine hEnd (by kernel_rfl) ?_
     refine jN (kN (?_))
     refine hK56 _ _ ?_
     refine cRgn [] trivial ?_
     refine sL (mv rfl) rfl ?_
     refine sL (bSub rfl rfl) rfl ?_
     refine sL (asg rfl) rfl ?_
     refine lE ?_
     refine kN (?_)
     exact ofEnv (fun a hE => ⟨_, (Option.some.inj H).symm, ⟨L28, hE.keep (Keep.cons rfl (Keep.cons rfl (Keep.cons rfl (Keep.cons rfl (Keep.cons rfl (Keep.cons rfl (Keep.cons rfl (Keep.nil)))))))), HF72, ho28⟩⟩)
    replace H := itF c310 H
    refine cSet (i := 110) rfl (dF c310) ?_
    refine cF rfl ?_
    refine cExit ?_
    refine kX (kX (jX (kN (?_))))
    exact ofEnv (fun a hE => ⟨_, (Option.some.inj H).symm, ⟨L24, hE.keep (Keep.cons rfl (Keep.cons rfl (Keep.cons rfl (Keep.cons rfl (Keep.cons rfl (Keep.cons rfl (Keep.cons rfl (Keep.nil)))))))), HF65, ho24⟩⟩)
   rintro s4 a w56 rfl ⟨L24, hE, HF74, ho24⟩
   replace H := Ho4
   refine go_k hE ?_
   refine kN (?_)
   refine hK46 _ _ ?_
   refine cRet ?_
   obtain rfl := Option.some.inj H
   refine kR (?_)
   refine ret0 rfl ?_
   exact ⟨[], L24, rfl, HF74, ho24⟩
  replace H := itF c173 H
  refine cSet (i := 80) rfl (dF c173) ?_
  refine cF rfl ?_
  refine cSkip ?_
  refine kN (?_)
  refine hK29 _ _ ?_
  refine cSeq (fun K57 hK57 => ?_)
  refine cRgn [] trivial ?_
  refine sL (mv rfl) rfl ?_
  refine sL (mv rfl) rfl ?_
  refine sL (bAdd rfl rfl) rfl ?_
  refine sL (cvI rfl Try.underlying3 Try.underlying57) rfl ?_
  refine sL (bShr rfl rfl (by decide)) rfl ?_
  refine sL (cvI rfl Try.underlying57 Try.underlying3) rfl ?_
  refine sL (asg rfl) rfl ?_
  refine lE ?_
  refine kN (?_)
  refine hK57 _ _ ?_
  refine cSeq (fun K58 hK58 => ?_)
  refine cRgn [] trivial ?_
  refine sL (mv rfl) rfl ?_
  refine sL (mv rfl) rfl ?_
  refine sL (bAdd rfl rfl) rfl ?_
  refine sL (asg rfl) rfl ?_
  refine lE ?_
  refine kN (?_)
  refine hK58 _ _ ?_
  refine cSeq (fun K59 hK59 => ?_)
  refine cRgn [] trivial ?_
  refine sL (asg rfl) rfl ?_
  refine sL (asg rfl) rfl ?_
  refine lE ?_
  refine kN (?_)
  refine hK59 _ _ ?_
  refine cSeq (fun K60 hK60 => ?_)
  refine cSeq (fun K61 hK61 => ?_)
  refine cRgn [] trivial ?_
  refine sL (mv rfl) rfl ?_
  refine sL (mv rfl) rfl ?_
  refine sL (bGtr rfl rfl) rfl ?_
  refine lE ?_
  refine kN (?_)
  refine hK61 _ _ ?_
  replace H := bnd H; obtain ⟨y9, H, Ho5⟩ := H
  refine cJoin (y := y9) (fun (s5 : Int × Int) a w => Env 220 [(0, .slice A_a0 a0.length c_a0), (1, .int .i64 a1), (2, .int .i64 a2), (3, .int .i64 a3), (4, .func (.func 49) [].toArray [].toArray), (18, .int .i64 (IntKind.i64.wrap (shrI .u64 (IntKind.u64.wrap (IntKind.i64.wrap (a1 + a3))) 1))), (19, .int .i64 (IntKind.i64.wrap ((IntKind.i64.wrap (shrI .u64 (IntKind.u64.wrap (IntKind.i64.wrap (a1 + a3))) 1)) + a2))), (20, .int .i64 s5.1), (21, .int .i64 s5.2)] a ∧ Fits z w (L_a0 ++ F)) ?_ ?_
  ·by_cases c346 : (IntKind.i64.wrap (shrI .u64 (IntKind.u64.wrap (IntKind.i64.wrap (a1 + a3))) 1)) < a2
   ·replace H := itT c346 H
    refine cSet (i := 140) rfl (dT c346) ?_
    refine cT rfl ?_
    refine cSeq (fun K64 hK64 => ?_)
    refine cRgn [] trivial ?_
    refine sL (mv rfl) rfl ?_
    refine sL (mv rfl) rfl ?_
    refine sL (bSub rfl rfl) rfl ?_
    refine sL (asg rfl) rfl ?_
    refine lE ?_
    refine kN (?_)
    refine hK64 _ _ ?_
    refine cRgn [] trivial ?_
    refine sL (mv rfl) rfl ?_
    refine sL (asg rfl) rfl ?_
    refine lE ?_
    refine kN (?_)
    exact ofEnv (fun a hE => ⟨_, (Option.some.inj H).symm, ⟨hE.keep (Keep.cons rfl (Keep.cons rfl (Keep.cons rfl (Keep.cons rfl (Keep.cons rfl (Keep.cons rfl (Keep.cons rfl (Keep.cons rfl (Keep.cons rfl (Keep.nil)))))))))), HF⟩⟩)
   replace H := itF c346 H
   refine cSet (i := 140) rfl (dF c346) ?_
   refine cF rfl ?_
   refine cSeq (fun K65 hK65 => ?_)
   refine cRgn [] trivial ?_
   refine sL (mv rfl) rfl ?_
   refine sL (asg rfl) rfl ?_
   refine lE ?_
   refine kN (?_)
   refine hK65 _ _ ?_
   refine cRgn [] trivial ?_
   refine sL (mv rfl) rfl ?_
   refine sL (asg rfl) rfl ?_
   refine lE ?_
   refine kN (?_)
   exact ofEnv (fun a hE => ⟨_, (Option.some.inj H).symm, ⟨hE.keep (Keep.cons rfl (Keep.cons rfl (Keep.cons rfl (Keep.cons rfl (Keep.cons rfl (Keep.cons rfl (Keep.cons rfl (Keep.cons rfl (Keep.cons rfl (Keep.nil)))))))))), HF⟩⟩)
  rintro s5 a w57 rfl ⟨hE, HF75⟩
  replace H := Ho5
  refine go_k hE ?_
  refine kN (?_)
  refine hK60 _ _ ?_
  refine cSeq (fun K66 hK66 => ?_)
  refine cRgn [] trivial ?_
  refine sL (mv rfl) rfl ?_
  refine sL (bSub rfl rfl) rfl ?_
  refine sL (asg rfl) rfl ?_
  refine lE ?_
  refine kN (?_)
  refine hK66 _ _ ?_
  refine cSeq (fun K67 hK67 => ?_)
  replace H := bnd H; obtain ⟨y10, J28, Ho6⟩ := H
  refine cLoopB (f_slices_symMergeCmpFunc_api_Lsa_fn49.b4 a0 a1 a2 a3) (fun (s6 : Int × Int) a w => Env 220 [(0, .slice A_a0 a0.length c_a0), (1, .int .i64 a1), (2, .int .i64 a2), (3, .int .i64 a3), (4, .func (.func 49) [].toArray [].toArray), (18, .int .i64 (IntKind.i64.wrap (shrI .u64 (IntKind.u64.wrap (IntKind.i64.wrap (a1 + a3))) 1))), (19, .int .i64 (IntKind.i64.wrap ((IntKind.i64.wrap (shrI .u64 (IntKind.u64.wrap (IntKind.i64.wrap (a1 + a3))) 1)) + a2))), (20, .int .i64 s6.1), (21, .int .i64 s6.2), (22, .int .i64 (IntKind.i64.wrap ((IntKind.i64.wrap ((IntKind.i64.wrap (shrI .u64 (IntKind.u64.wrap (IntKind.i64.wrap (a1 + a3))) 1)) + a2)) - 1)))] a ∧ Fits z w (L_a0 ++ F)) J28 (fun a hE => ⟨hE.keep (Keep.cons rfl (Keep.cons rfl (Keep.cons rfl (Keep.cons rfl (Keep.cons rfl (Keep.cons rfl (Keep.cons rfl (Keep.cons rfl (Keep.cons rfl (Keep.cons rfl (Keep.nil))))))))))), HF75⟩) ?_ ?_
  ·rintro s6 a w64 y11 ⟨hE, HF82⟩ H Hx5
   refine go_ hE ?_
   refine cSeq (fun K76 hK76 => ?_)
   refine cSeq (fun K77 hK77 => ?_)
   refine cRgn [] trivial ?_
   refine sL (mv rfl) rfl ?_
   refine sL (mv rfl) rfl ?_
   refine sL (bLss rfl rfl) rfl ?_
   refine lE ?_
   refine kN (?_)
   refine hK77 _ _ ?_
   by_cases c391 : s6.1 < s6.2
   ·replace H := itT c391 H
    refine cSet (i := 151) rfl (dT c391) ?_
    refine cT rfl ?_
    refine cSkip ?_
    refine kN (?_)
    refine hK76 _ _ ?_
    refine cBlock ?_
    refine cSeq (fun K78 hK78 => ?_)
    refine cRgn [] trivial ?_
    refine sL (mv rfl) rfl ?_
    refine sL (mv rfl) rfl ?_
    refine sL (bAdd rfl rfl) rfl ?_
    refine sL (cvI rfl Try.underlying3 Try.underlying57) rfl ?_
    refine sL (bShr rfl rfl (by decide)) rfl ?_
    refine sL (cvI rfl Try.underlying57 Try.underlying3) rfl ?_
    refine sL (asg rfl) rfl ?_
    refine lE ?_
    refine kN (?_)
    refine hK78 _ _ ?_
    refine cSeq (fun K79 hK79 => ?_)
    refine cDraw mo_ HF82 rfl (fun w => Fits z w (L_a0 ++ F)) (fun w66 HF84 => ?_)
    refine hT 0 rfl (by kernel_rfl) (fun w_ hS_ => mv rfl) HF84 rfl rfl ?_
    refine hT 1 rfl (by kernel_rfl) (fun w_ hS_ => mv rfl) HF84 rfl rfl ?_
    refine hT 2 rfl (by kernel_rfl) (fun w_ hS_ => mv rfl) HF84 rfl rfl ?_
    refine hT 3 rfl (by kernel_rfl) (fun w_ hS_ => mv rfl) HF84 rfl rfl ?_
    refine hT 4 rfl (by kernel_rfl) (fun w_ hS_ => bSub rfl rfl) HF84 rfl rfl ?_
    replace H := chk H; obtain ⟨c402, H⟩ := H
    replace H := chk H; obtain ⟨c403, H⟩ := H
    obtain ⟨g30, o30, e166, rfl, hk83, q83⟩ := RdS.at_ ho_a0.rd c402 c403
    obtain ⟨A247, c404, A248, c405, A249, c406, rfl, hr247, hr248, hr249⟩ := rd_T_api_Lsa hk83
    refine hT 5 rfl (by kernel_rfl) (fun w_ hS_ => ia rfl rfl Try.underlying24 ti44 c402 c403) HF84 rfl rfl ?_
    refine hT 6 rfl (by kernel_rfl) (fun w_ hS_ => ldA rfl ti44 rfl rfl (fun j v hj => hS_.cells (sub_h) (q83 j v hj))) HF84 rfl rfl ?_
    refine hT 7 rfl (by kernel_rfl) (fun w_ hS_ => mv rfl) HF84 rfl rfl ?_
    refine hT 8 rfl (by kernel_rfl) (fun w_ hS_ => mv rfl) HF84 rfl rfl ?_
    replace H := chk H; obtain ⟨c407, H⟩ := H
    replace H := chk H; obtain ⟨c408, H⟩ := H
    obtain ⟨e168, hk84, q84⟩ := RdS.at' ho_a0.rd c407 c408
    obtain ⟨A250, c409, A251, c410, A252, c411, rfl, hr250, hr251, hr252⟩ := rd_T_api_Lsa hk84
    refine hT 9 rfl (by kernel_rfl) (fun w_ hS_ => ia rfl rfl Try.underlying24 ti44 c407 c408) HF84 rfl rfl ?_
    refine hT 10 rfl (by kernel_rfl) (fun w_ hS_ => ldA rfl ti44 rfl rfl (fun j v hj => hS_.cells (sub_h) (q84 j v hj))) HF84 rfl rfl ?_
    refine h1 11 (by kernel_rfl) rfl ?_
    replace H := bnd H; obtain ⟨t18, J22, H⟩ := H
    refine qCall rfl gd0 isf49 rfl rfl rfl (f_topo_live_1.ok (a0 := (rd a0 (IntKind.i64.wrap ((IntKind.i64.wrap ((IntKind.i64.wrap ((IntKind.i64.wrap (shrI .u64 (IntKind.u64.wrap (IntKind.i64.wrap (a1 + a3))) 1)) + a2)) - 1)) - (IntKind.i64.wrap (shrI .u64 (IntKind.u64.wrap (IntKind.i64.wrap (s6.1 + s6.2))) 1)))))) (a1 := (rd a0 (IntKind.i64.wrap (shrI .u64 (IntKind.u64.wrap (IntKind.i64.wrap (s6.1 + s6.2))) 1)))) (sub_a hG) J22 HF84 (sub_a hG) hr247 (sub_a hG) hr248 (sub_a hG) hr249 (sub_a hG) hr250 (sub_a hG) hr251 (sub_a hG) hr252) ?_
    rintro _ w67 ⟨rfl, HF85⟩
    refine ⟨_, rfl, HF85, ?_⟩
    refine hT 12 rfl (by kernel_rfl) (fun w_ hS_ => bLss rfl rfl) HF85 rfl rfl ?_
    refine hT 13 rfl (by kernel_rfl) (fun w_ hS_ => uNot rfl) HF85 rfl rfl ?_
    refine hEnd (by kernel_rfl) ?_
    refine kN (?_)
    refine hK79 _ _ ?_
    by_cases c412 : t18 < 0
    ·replace H := itT c412 H
     refine cSet (i := 171) rfl (nF c412) ?_
     refine cF rfl ?_
     refine cRgn [] trivial ?_
     refine sL (mv rfl) rfl ?_
     refine sL (asg rfl) rfl ?_
     refine lE ?_
     refine jN (kN (?_))
     exact ofEnv (fun a hE => ⟨_, (Option.some.inj H).symm, ⟨hE.keep (Keep.cons rfl (Keep.cons rfl (Keep.cons rfl (Keep.cons rfl (Keep.cons rfl (Keep.cons rfl (Keep.cons rfl (Keep.cons rfl (Keep.cons rfl (Keep.cons rfl (Keep.nil))))))))))), HF85⟩⟩)
    replace H := itF c412 H
    refine cSet (i := 171) rfl (nT c412) ?_
    refine cT rfl ?_
    refine cRgn [] trivial ?_
    refine sL (mv rfl) rfl ?_
    refine sL (bAdd rfl rfl) rfl ?_
    refine sL (asg rfl) rfl ?_
    refine lE ?_
    refine jN (kN (?_))
    exact ofEnv (fun a hE => ⟨_, (Option.some.inj H).symm, ⟨hE.keep (Keep.cons rfl (Keep.cons rfl (Keep.cons rfl (Keep.cons rfl (Keep.cons rfl (Keep.cons rfl (Keep.cons rfl (Keep.cons rfl (Keep.cons rfl (Keep.cons rfl (Keep.nil))))))))))), HF85⟩⟩)
   replace H := itF c391 H
   refine cSet (i := 151) rfl (dF c391) ?_
   refine cF rfl ?_
   refine cExit ?_
   refine kX (kX (jX (kN (?_))))
   exact ofEnv (fun a hE => ⟨_, (Option.some.inj H).symm, ⟨hE.keep (Keep.cons rfl (Keep.cons rfl (Keep.cons rfl (Keep.cons rfl (Keep.cons rfl (Keep.cons rfl (Keep.cons rfl (Keep.cons rfl (Keep.cons rfl (Keep.cons rfl (Keep.nil))))))))))), HF82⟩⟩)
  rintro s6 a w68 rfl ⟨hE, HF86⟩
  replace H := Ho6
  refine go_k hE ?_
  refine kN (?_)
  refine hK67 _ _ ?_
  refine cSeq (fun K80 hK80 => ?_)
  refine cRgn [] trivial ?_
  refine sL (mv rfl) rfl ?_
  refine sL (mv rfl) rfl ?_
  refine sL (bSub rfl rfl) rfl ?_
  refine sL (asg rfl) rfl ?_
  refine lE ?_
  refine kN (?_)
  refine hK80 _ _ ?_
  refine cSeq (fun K81 hK81 => ?_)
  refine cSeq (fun K82 hK82 => ?_)
  replace H := bnd H; obtain ⟨y12, H, Ho7⟩ := H
  refine cJoin (y := y12) (fun (s7 : Bool) a w => Env 220 [(0, .slice A_a0 a0.length c_a0), (1, .int .i64 a1), (2, .int .i64 a2), (3, .int .i64 a3), (4, .func (.func 49) [].toArray [].toArray), (18, .int .i64 (IntKind.i64.wrap (shrI .u64 (IntKind.u64.wrap (IntKind.i64.wrap (a1 + a3))) 1))), (20, .int .i64 s6.1), (24, .int .i64 (IntKind.i64.wrap ((IntKind.i64.wrap ((IntKind.i64.wrap (shrI .u64 (IntKind.u64.wrap (IntKind.i64.wrap (a1 + a3))) 1)) + a2)) - s6.1))), (185, .bool s7)] a ∧ Fits z w (L_a0 ++ F)) ?_ ?_
  ·refine cRgn [(3, 181)] ⟨rfl, trivial⟩ ?_
   refine sL (mv rfl) rfl ?_
   refine sL (mv rfl) rfl ?_
   refine sL (bLss rfl rfl) rfl ?_
   refine sL (mv rfl) rfl ?_
   by_cases c414 : s6.1 < a2
   ·replace H := itT c414 H
    refine lSet (i := 181) rfl (dT c414) ?_
    refine sG rfl rfl (mv rfl) rfl ?_
    refine sG rfl rfl (mv rfl) rfl ?_
    refine sG rfl rfl (bLss rfl rfl) rfl ?_
    refine sL (pkT rfl rfl) rfl ?_
    refine lE ?_
    refine kN (?_)
    exact ofEnv (fun a hE => ⟨_, (Option.some.inj H).symm, ⟨hE.keep (Keep.cons rfl (Keep.cons rfl (Keep.cons rfl (Keep.cons rfl (Keep.cons rfl (Keep.cons rfl (Keep.cons rfl (Keep.cons rfl (Keep.cons rfl (Keep.nil)))))))))), HF86⟩⟩)
   replace H := itF c414 H
   refine lSet (i := 181) rfl (dF c414) ?_
   refine sN rfl rfl rfl rfl ?_
   refine sN rfl rfl rfl rfl ?_
   refine sN rfl rfl rfl rfl ?_
   refine sL (pkF rfl rfl) rfl ?_
   refine lE ?_
   refine kN (?_)
   exact ofEnv (fun a hE => ⟨_, (Option.some.inj H).symm, ⟨hE.keep (Keep.cons rfl (Keep.cons rfl (Keep.cons rfl (Keep.cons rfl (Keep.cons rfl (Keep.cons rfl (Keep.cons rfl (Keep.cons rfl (Keep.cons rfl (Keep.nil)))))))))), HF86⟩⟩)
  rintro s7 a w69 rfl ⟨hE, HF87⟩
  replace H := Ho7
  refine go_k hE ?_
  refine kN (?_)
  refine hK82 _ _ ?_
  replace H := bnd H; obtain ⟨y13, H, Ho8⟩ := H
  refine cJoin (y := y13) (fun (s8 : (List T_api_Lsa)) a w => ∃ (D1 : Hp) (L30 : Hp), Env 220 [(0, .slice A_a0 s8.length c_a0), (1, .int .i64 a1), (3, .int .i64 a3), (4, .func (.func 49) [].toArray [].toArray), (18, .int .i64 (IntKind.i64.wrap (shrI .u64 (IntKind.u64.wrap (IntKind.i64.wrap (a1 + a3))) 1))), (20, .int .i64 s6.1), (24, .int .i64 (IntKind.i64.wrap ((IntKind.i64.wrap ((IntKind.i64.wrap (shrI .u64 (IntKind.u64.wrap (IntKind.i64.wrap (a1 + a3))) 1)) + a2)) - s6.1)))] a ∧ Fits z w (L30 ++ (D1 ++ F)) ∧ OwnS (kShr (D1 ++ G) k_T_api_Lsa) L30 A_a0 c_a0 s8) ?_ ?_
  ·by_cases c417 : s7 = true
   ·replace H := itT c417 H
    refine cSet (i := 185) rfl (vT c417) ?_
    refine cT rfl ?_
    refine cRgn [] trivial ?_
    refine sL (mv rfl) rfl ?_
    refine sL (mv rfl) rfl ?_
    refine sL (mv rfl) rfl ?_
    refine sL (mv rfl) rfl ?_
    refine sL (mv rfl) rfl ?_
    replace H := bnd H; obtain ⟨t20, J24, H⟩ := H
    refine eCall isf80 rfl rfl rfl (f_slices_rotateCmpFunc_api_Lsa_fn49.ok (a0 := a0) hG J24 HF87 ho_a0) ?_
    rintro _ w71 ⟨N2, L31, rfl, HF89, ho31⟩
    have hs2 : G ⊆ N2 ++ G := sub_a sub_r
    refine ⟨_, rfl, ?_⟩
    replace H := chk H; obtain ⟨c418, H⟩ := H
    refine lSet (i := 0) (v := .slice A_a0 t20.length c_a0) rfl (by rw [c418]) ?_
    refine lSet (i := 186) (v := .slice A_a0 t20.length c_a0) rfl (by rw [c418]) ?_
    refine lE ?_
    refine kN (?_)
    exact ofEnv (fun a hE => ⟨_, (Option.some.inj H).symm, ⟨N2, L31, hE.keep (Keep.cons rfl (Keep.cons rfl (Keep.cons rfl (Keep.cons rfl (Keep.cons rfl (Keep.cons rfl (Keep.cons rfl (Keep.nil)))))))), HF89, ho31⟩⟩)
   replace H := itF c417 H
   refine cSet (i := 185) rfl (vF c417) ?_
   refine cF rfl ?_
   refine cSkip ?_
   refine kN (?_)
   exact ofEnv (fun a hE => ⟨_, (Option.some.inj H).symm, ⟨[], L_a0, hE.keep (Keep.cons rfl (Keep.cons rfl (Keep.cons rfl (Keep.cons rfl (Keep.cons rfl (Keep.cons rfl (Keep.cons rfl (Keep.nil)))))))), HF87, ho_a0⟩⟩)
  rintro s8 a w72 rfl ⟨D1, L30, hE, HF90, ho30⟩
  replace H := Ho8
  refine go_k hE ?_
  have hs3 : G ⊆ D1 ++ G := sub_a sub_r
  refine kN (?_)
  refine hK81 _ _ ?_
  refine cSeq (fun K83 hK83 => ?_)
  refine cSeq (fun K84 hK84 => ?_)
  replace H := bnd H; obtain ⟨y14, H, Ho9⟩ := H
  refine cJoin (y := y14) (fun (s9 : Bool) a w => Env 220 [(0, .slice A_a0 s8.length c_a0), (1, .int .i64 a1), (3, .int .i64 a3), (4, .func (.func 49) [].toArray [].toArray), (18, .int .i64 (IntKind.i64.wrap (shrI .u64 (IntKind.u64.wrap (IntKind.i64.wrap (a1 + a3))) 1))), (20, .int .i64 s6.1), (24, .int .i64 (IntKind.i64.wrap ((IntKind.i64.wrap ((IntKind.i64.wrap (shrI .u64 (IntKind.u64.wrap (IntKind.i64.wrap (a1 + a3))) 1)) + a2)) - s6.1))), (199, .bool s9)] a ∧ Fits z w (L30 ++ (D1 ++ F))) ?_ ?_
  ·refine cRgn [(3, 195)] ⟨rfl, trivial⟩ ?_
   refine sL (mv rfl) rfl ?_
   refine sL (mv rfl) rfl ?_
   refine sL (bLss rfl rfl) rfl ?_
   refine sL (mv rfl) rfl ?_
   by_cases c420 : a1 < s6.1
   ·replace H := itT c420 H
    refine lSet (i := 195) rfl (dT c420) ?_
    refine sG rfl rfl (mv rfl) rfl ?_
    refine sG rfl rfl (mv rfl) rfl ?_
    refine sG rfl rfl (bLss rfl rfl) rfl ?_
    refine sL (pkT rfl rfl) rfl ?_
    refine lE ?_
    refine kN (?_)
    exact ofEnv (fun a hE => ⟨_, (Option.some.inj H).symm, ⟨hE.keep (Keep.cons rfl (Keep.cons rfl (Keep.cons rfl (Keep.cons rfl (Keep.cons rfl (Keep.cons rfl (Keep.cons rfl (Keep.cons rfl (Keep.nil))))))))), HF90⟩⟩)
   replace H := itF c420 H
   refine lSet (i := 195) rfl (dF c420) ?_
   refine sN rfl rfl rfl rfl ?_
   refine sN rfl rfl rfl rfl ?_
   refine sN rfl rfl rfl rfl ?_
   refine sL (pkF rfl rfl) rfl ?_
   refine lE ?_
   refine kN (?_)
   exact ofEnv (fun a hE => ⟨_, (Option.some.inj H).symm, ⟨hE.keep (Keep.cons rfl (Keep.cons rfl (Keep.cons rfl (Keep.cons rfl (Keep.cons rfl (Keep.cons rfl (Keep.cons rfl (Keep.cons rfl (Keep.nil))))))))), HF90⟩⟩)
  rintro s9 a w73 rfl ⟨hE, HF91⟩
  replace H := Ho9
  refine go_k hE ?_
  refine kN (?_)
  refine hK84 _ _ ?_
  by_cases c421 : s9 = true
  ·replace H := itT c421 H
   refine cSet (i := 199) rfl (vT c421) ?_
   refine cT rfl ?_
   refine cRgn [] trivial ?_
   refine sL (mv rfl) rfl ?_
   refine sL (mv rfl) rfl ?_
   refine sL (mv rfl) rfl ?_
   refine sL (mv rfl) rfl ?_
   refine sL (mv rfl) rfl ?_
   replace H := bnd H; obtain ⟨t21, J25, H⟩ := H
   refine eCall isf74 rfl rfl rfl (ih_ (a0 := s8) (sub_n hG) J25 HF91 ho30) ?_
   rintro _ w74 ⟨N3, L32, rfl, HF92, ho32⟩
   obtain ⟨N4, hN1⟩ : ∃ N_, N_ = N3 ++ D1 := ⟨_, rfl⟩
   have HF93 := HF92; rw [← List.append_assoc N3 D1 F, ← hN1] at HF93
   have hs4 : D1 ++ G ⊆ N4 ++ G := frz_s hN1
   have hr253 := OwnS.lift (G' := (N4 ++ G)) ho32 (frz_c hN1)
   refine ⟨_, rfl, ?_⟩
   replace H := chk H; obtain ⟨c422, H⟩ := H
   refine lSet (i := 0) (v := .slice A_a0 t21.length c_a0) rfl (by rw [c422]) ?_
   refine lSet (i := 200) (v := .slice A_a0 t21.length c_a0) rfl (by rw [c422]) ?_
   refine lE ?_
   refine kN (?_)
   refine hK83 _ _ ?_
   refine cSeq (fun K85 hK85 => ?_)
   refine cRgn [(3, 209)] ⟨rfl, trivial⟩ ?_
   refine sL (mv rfl) rfl ?_
   refine sL (mv rfl) rfl ?_
   refine sL (bLss rfl rfl) rfl ?_
   refine sL (mv rfl) rfl ?_
   by_cases c423 : (IntKind.i64.wrap (shrI .u64 (IntKind.u64.wrap (IntKind.i64.wrap (a1 + a3))) 1)) < (IntKind.i64.wrap ((IntKind.i64.wrap ((IntKind.i64.wrap (shrI .u64 (IntKind.u64.wrap (IntKind.i64.wrap (a1 + a3))) 1)) + a2)) - s6.1))
   ·replace H := itT c423 H
    refine lSet (i := 209) rfl (dT c423) ?_
    refine sG rfl rfl (mv rfl) rfl ?_
    refine sG rfl rfl (mv rfl) rfl ?_
    refine sG rfl rfl (bLss rfl rfl) rfl ?_
    refine sL (pkT rfl rfl) rfl ?_
    refine lE ?_
    refine kN (?_)
    refine hK85 _ _ ?_
    by_cases c424 : (IntKind.i64.wrap ((IntKind.i64.wrap ((IntKind.i64.wrap (shrI .u64 (IntKind.u64.wrap (IntKind.i64.wrap (a1 + a3))) 1)) + a2)) - s6.1)) < a3
    ·replace H := itT c424 H
     refine cSet (i := 213) rfl (dT c424) ?_
     refine cT rfl ?_
     refine cRgn [] trivial ?_
     refine sL (mv rfl) rfl ?_
     refine sL (mv rfl) rfl ?_
     refine sL (mv rfl) rfl ?_
     refine sL (mv rfl) rfl ?_
     refine sL (mv rfl) rfl ?_
     replace H := bnd H; obtain ⟨t22, J26, H⟩ := H
     refine eCall isf74 rfl rfl rfl (ih_ (a0 := t21) (sub_n hG) J26 HF93 hr253) ?_
     rintro _ w75 ⟨N5, L33, rfl, HF94, ho33⟩
     obtain ⟨N6, hN2⟩ : ∃ N_, N_ = N5 ++ N4 := ⟨_, rfl⟩
     have HF95 := HF94; rw [← List.append_assoc N5 N4 F, ← hN2] at HF95
     have hs5 : N4 ++ G ⊆ N6 ++ G := frz_s hN2
     have hr254 := OwnS.lift (G' := (N6 ++ G)) ho33 (frz_c hN2)
     refine ⟨_, rfl, ?_⟩
     replace H := chk H; obtain ⟨c425, H⟩ := H
     refine lSet (i := 0) (v := .slice A_a0 t22.length c_a0) rfl (by rw [c425]) ?_
     refine lSet (i := 200) (v := .slice A_a0 t22.length c_a0) rfl (by rw [c425]) ?_
     refine lSet (i := 214) (v := .slice A_a0 t22.length c_a0) rfl (by rw [c425]) ?_
     refine lE ?_
     obtain rfl := Option.some.inj H
     refine end0 rfl ?_
     exact ⟨N6, L33, rfl, HF95, hr254⟩
    replace H := itF c424 H
    refine cSet (i := 213) rfl (dF c424) ?_
    refine cF rfl ?_
    refine cSkip ?_
    obtain rfl := Option.some.inj H
    refine end0 rfl ?_
    exact ⟨N4, L32, rfl, HF93, hr253⟩
   replace H := itF c423 H
   refine lSet (i := 209) rfl (dF c423) ?_
   refine sN rfl rfl rfl rfl ?_
   refine sN rfl rfl rfl rfl ?_
   refine sN rfl rfl rfl rfl ?_
   refine sL (pkF rfl rfl) rfl ?_
   refine lE ?_
   refine kN (?_)
   refine hK85 _ _ ?_
   refine cF rfl ?_
   refine cSkip ?_
   obtain rfl := Option.some.inj H
   refine end0 rfl ?_
   exact ⟨N4, L32, rfl, HF93, hr253⟩
  replace H := itF c421 H
  refine cSet (i := 199) rfl (vF c421) ?_
  refine cF rfl ?_
  refine cSkip ?_
  refine kN (?_)
  refine hK83 _ _ ?_
  refine cSeq (fun K86 hK86 => ?_)
  refine cRgn [(3, 209)] ⟨rfl, trivial⟩ ?_
  refine sL (mv rfl) rfl ?_
  refine sL (mv rfl) rfl ?_
  refine sL (bLss rfl rfl) rfl ?_
  refine sL (mv rfl) rfl ?_
  by_cases c426 : (IntKind.i64.wrap (shrI .u64 (IntKind.u64.wrap (IntKind.i64.wrap (a1 + a3))) 1)) < (IntKind.i64.wrap ((IntKind.i64.wrap ((IntKind.i64.wrap (shrI .u64 (IntKind.u64.wrap (IntKind.i64.wrap (a1 + a3))) 1)) + a2)) - s6.1))
  ·replace H := itT c426 H
   refine lSet (i := 209) rfl (dT c426) ?_
   refine sG rfl rfl (mv rfl) rfl ?_
   refine sG rfl rfl (mv rfl) rfl ?_
   refine sG rfl rfl (bLss rfl rfl) rfl ?_
   refine sL (pkT rfl rfl) rfl ?_
   refine lE ?_
   refine kN (?_)
   refine hK86 _ _ ?_
   by_cases c427 : (IntKind.i64.wrap ((IntKind.i64.wrap ((IntKind.i64.wrap (shrI .u64 (IntKind.u64.wrap (IntKind.i64.wrap (a1 + a3))) 1)) + a2)) - s6.1)) < a3
   ·replace H := itT c427 H
    refine cSet (i := 213) rfl (dT c427) ?_
    refine cT rfl ?_
    refine cRgn [] trivial ?_
    refine sL (mv rfl) rfl ?_
    refine sL (mv rfl) rfl ?_
    refine sL (mv rfl) rfl ?_
    refine sL (mv rfl) rfl ?_
    refine sL (mv rfl) rfl ?_
    replace H := bnd H; obtain ⟨t23, J27, H⟩ := H
    refine eCall isf74 rfl rfl rfl (ih_ (a0 := s8) (sub_n hG) J27 HF91 ho30) ?_
    rintro _ w76 ⟨N7, L34, rfl, HF96, ho34⟩
    obtain ⟨N8, hN3⟩ : ∃ N_, N_ = N7 ++ D1 := ⟨_, rfl⟩
    have HF97 := HF96; rw [← List.append_assoc N7 D1 F, ← hN3] at HF97
    have hs6 : D1 ++ G ⊆ N8 ++ G := frz_s hN3
    have hr255 := OwnS.lift (G' := (N8 ++ G)) ho34 (frz_c hN3)
    refine ⟨_, rfl, ?_⟩
    replace H := chk H; obtain ⟨c428, H⟩ := H
    refine lSet (i := 0) (v := .slice A_a0 t23.length c_a0) rfl (by rw [c428]) ?_
    refine lSet (i := 214) (v := .slice A_a0 t23.length c_a0) rfl (by rw [c428]) ?_
    refine lE ?_
    obtain rfl := Option.some.inj H
    refine end0 rfl ?_
    exact ⟨N8, L34, rfl, HF97, hr255⟩
   replace H := itF c427 H
   refine cSet (i := 213) rfl (dF c427) ?_
   refine cF rfl ?_
   refine cSkip ?_
   obtain rfl := Option.some.inj H
   refine end0 rfl ?_
   exact ⟨D1, L30, rfl, HF91, ho30⟩
  replace H := itF c426 H
  refine lSet (i := 209) rfl (dF c426) ?_
  refine sN rfl rfl rfl rfl ?_
  refine sN rfl rfl rfl rfl ?_
  refine sN rfl rfl rfl rfl ?_
  refine sL (pkF rfl rfl) rfl ?_
  refine lE ?_
  refine kN (?_)
  refine hK86 _ _ ?_
  refine cF rfl ?_
  refine cSkip ?_
  obtain rfl := Option.some.inj H
  refine end0 rfl ?_
  exact ⟨D1, L30, rfl, HF91, ho30⟩
/-! ### slices.stableCmpFunc[plenum/api.Lsa] (function 61) -/
abbrev f_slices_stableCmpFunc_api_Lsa_fn49.R := List T_api_Lsa
noncomputable def f_slices_stableCmpFunc_api_Lsa_fn49.b0 (a1 : Int) (s1 : Int × Int × (List T_api_Lsa)) : Option (Sum (Int × Int × (List T_api_Lsa)) (Sum (Int × Int × (List T_api_Lsa)) f_slices_stableCmpFunc_api_Lsa_fn49.R)) := (if s1.2.1 ≤ a1 then ((f_slices_insertionSortCmpFunc_api_Lsa_fn49 s1.2.2 s1.1 s1.2.1).bind fun t3 => (if t3.length = s1.2.2.length then some (.inl (s1.2.1, IntKind.i64.wrap (s1.2.1 + 20), t3)) else none)) else some (.inr (.inl (s1.1, s1.2.1, s1.2.2))))
noncomputable def f_slices_stableCmpFunc_api_Lsa_fn49.b1 (a1 : Int) (s4 : Int × (List T_api_Lsa)) (s5 : Int × Int × (List T_api_Lsa)) : Option (Sum (Int × Int × (List T_api_Lsa)) (Sum (Int × Int × (List T_api_Lsa)) f_slices_stableCmpFunc_api_Lsa_fn49.R)) := (if s5.2.1 ≤ a1 then ((f_slices_symMergeCmpFunc_api_Lsa_fn49 64 s5.2.2 s5.1 (IntKind.i64.wrap (s5.1 + s4.1)) s5.2.1).bind fun t15 => (if t15.length = s5.2.2.length then some (.inl (s5.2.1, IntKind.i64.wrap (s5.2.1 + (IntKind.i64.wrap (2 * s4.1))), t15)) else none)) else some (.inr (.inl (s5.1, s5.2.1, s5.2.2))))
noncomputable def f_slices_stableCmpFunc_api_Lsa_fn49.b2 (a1 : Int) (s4 : Int × (List T_api_Lsa)) : Option (Sum (Int × (List T_api_Lsa)) (Sum (Int × (List T_api_Lsa)) f_slices_stableCmpFunc_api_Lsa_fn49.R)) := (if s4.1 < a1 then ((loopO (f_slices_stableCmpFunc_api_Lsa_fn49.b1 a1 s4) (0, IntKind.i64.wrap (2 * s4.1), s4.2)).bind fun y9 => match y9 with | .inl s5 => (if (IntKind.i64.wrap (s5.1 + s4.1)) < a1 then ((f_slices_symMergeCmpFunc_api_Lsa_fn49 64 s5.2.2 s5.1 (IntKind.i64.wrap (s5.1 + s4.1)) a1).bind fun t16 => (if t16.length = s5.2.2.length then some (.inl (IntKind.i64.wrap (s4.1 * 2), t16)) else none)) else some (.inl (IntKind.i64.wrap (s4.1 * 2), s5.2.2))) | .inr r_ => some (.inr (.inr r_))) else some (.inr (.inl (s4.1, s4.2))))
noncomputable def f_slices_stableCmpFunc_api_Lsa_fn49 (a0 : List T_api_Lsa) (a1 : Int) : Option f_slices_stableCmpFunc_api_Lsa_fn49.R := ((loopO (f_slices_stableCmpFunc_api_Lsa_fn49.b0 a1) (0, 20, a0)).bind fun y1 => match y1 with | .inl s1 => ((f_slices_insertionSortCmpFunc_api_Lsa_fn49 s1.2.2 s1.1 a1).bind fun t4 => (if t4.length = s1.2.2.length then ((loopO (f_slices_stableCmpFunc_api_Lsa_fn49.b2 a1) (20, t4)).bind fun y7 => match y7 with | .inl s4 => some s4.2 | .inr r_ => some r_) else none)) | .inr r_ => some r_)
set_option maxHeartbeats 1000000 in
theorem f_slices_stableCmpFunc_api_Lsa_fn49.ok {z w : World} {F G : Hp} (hG : G ⊆ F) {a0 : List T_api_Lsa} {A_a0 : Option Addr} {c_a0 : Nat} {L_a0 : Hp} {a1 : Int} {r : f_slices_stableCmpFunc_api_Lsa_fn49.R} (H : f_slices_stableCmpFunc_api_Lsa_fn49 a0 a1 = some r) (HF : Fits z w (L_a0 ++ F)) (ho_a0 : OwnS (kShr G k_T_api_Lsa) L_a0 A_a0 c_a0 a0) :
  Calls Try.prog 61 [.slice A_a0 a0.length c_a0, .int .i64 a1, .func (.func 49) [].toArray [].toArray].toArray w fun e w' => ∃ (N : Hp) (M0 : Hp), e = .returned (.tuple #[]) ∧ Fits z w' (M0 ++ (N ++ F)) ∧ OwnS (kShr (N ++ G) k_T_api_Lsa) M0 A_a0 c_a0 r := by
 unfold f_slices_stableCmpFunc_api_Lsa_fn49 at H
 refine enter0 Try.func61 rfl Try.ntmps61 rfl (E := [(0, .slice A_a0 a0.length c_a0), (1, .int .i64 a1), (2, .func (.func 49) [].toArray [].toArray)]) rfl ?_
 refine cSeq (fun K1 hK1 => ?_)
 refine cRgn [] trivial ?_
 refine sL (asg rfl) rfl ?_
 refine lE ?_
 refine kN (?_)
 refine hK1 _ _ ?_
 refine cSeq (fun K2 hK2 => ?_)
 refine cRgn [] trivial ?_
 refine sL (mv rfl) rfl ?_
 refine sL (asg rfl) rfl ?_
 refine sL (asg rfl) rfl ?_
 refine lE ?_
 refine kN (?_)
 refine hK2 _ _ ?_
 refine cSeq (fun K3 hK3 => ?_)
 replace H := bnd H; obtain ⟨y1, J21, Ho1⟩ := H
 refine cLoopB (f_slices_stableCmpFunc_api_Lsa_fn49.b0 a1) (fun (s1 : Int × Int × (List T_api_Lsa)) a w => ∃ (D2 : Hp) (L4 : Hp), Env 63 [(0, .slice A_a0 s1.2.2.length c_a0), (1, .int .i64 a1), (2, .func (.func 49) [].toArray [].toArray), (6, .int .i64 20), (7, .int .i64 s1.1), (8, .int .i64 s1.2.1)] a ∧ Fits z w (L4 ++ (D2 ++ F)) ∧ OwnS (kShr (D2 ++ G) k_T_api_Lsa) L4 A_a0 c_a0 s1.2.2) J21 (fun a hE => ⟨[], L_a0, hE.keep (Keep.cons rfl (Keep.cons rfl (Keep.cons rfl (Keep.cons rfl (Keep.cons rfl (Keep.cons rfl (Keep.nil))))))), HF, ho_a0⟩) ?_ ?_
 ·rintro s1 a w3 y2 ⟨D2, L4, hE, HF4, ho4⟩ H Hx1
  refine go_ hE ?_
  have hs4 : G ⊆ D2 ++ G := sub_a sub_r
  refine cSeq (fun K12 hK12 => ?_)
  refine cSeq (fun K13 hK13 => ?_)
  refine cRgn [] trivial ?_
  refine sL (mv rfl) rfl ?_
  refine sL (mv rfl) rfl ?_
  refine sL (bLeq rfl rfl) rfl ?_
  refine lE ?_
  refine kN (?_)
  refine hK13 _ _ ?_
  by_cases c5 : s1.2.1 ≤ a1
  ·replace H := itT c5 H
   refine cSet (i := 13) rfl (dT c5) ?_
   refine cT rfl ?_
   refine cSkip ?_
   refine kN (?_)
   refine hK12 _ _ ?_
   refine cBlock ?_
   refine cSeq (fun K14 hK14 => ?_)
   refine cRgn [] trivial ?_
   refine sL (mv rfl) rfl ?_
   refine sL (mv rfl) rfl ?_
   refine sL (mv rfl) rfl ?_
   refine sL (mv rfl) rfl ?_
   replace H := bnd H; obtain ⟨t3, J3, H⟩ := H
   refine eCall isf73 rfl rfl rfl (f_slices_insertionSortCmpFunc_api_Lsa_fn49.ok (a0 := s1.2.2) (sub_n hG) J3 HF4 ho4) ?_
   rintro _ w4 ⟨N4, L5, rfl, HF5, ho5⟩
   obtain ⟨N5, hN2⟩ : ∃ N_, N_ = N4 ++ D2 := ⟨_, rfl⟩
   have HF6 := HF5; rw [← List.append_assoc N4 D2 F, ← hN2] at HF6
   have hs5 : D2 ++ G ⊆ N5 ++ G := frz_s hN2
   have hr2 := OwnS.lift (G' := (N5 ++ G)) ho5 (frz_c hN2)
   refine ⟨_, rfl, ?_⟩
   replace H := chk H; obtain ⟨c6, H⟩ := H
   refine lSet (i := 0) (v := .slice A_a0 t3.length c_a0) rfl (by rw [c6]) ?_
   refine lSet (i := 14) (v := .slice A_a0 t3.length c_a0) rfl (by rw [c6]) ?_
   refine lE ?_
   refine kN (?_)
   refine hK14 _ _ ?_
   refine cSeq (fun K15 hK15 => ?_)
   refine cRgn [] trivial ?_
   refine sL (mv rfl) rfl ?_
   refine sL (asg rfl) rfl ?_
   refine lE ?_
   refine kN (?_)
   refine hK15 _ _ ?_
   refine cRgn [] trivial ?_
   refine sL (mv rfl) rfl ?_
   refine sL (mv rfl) rfl ?_
   refine sL (bAdd rfl rfl) rfl ?_
   refine sL (asg rfl) rfl ?_
   refine lE ?_
   refine jN (kN (?_))
   exact ofEnv (fun a hE => ⟨_, (Option.some.inj H).symm, ⟨N5, L5, hE.keep (Keep.cons rfl (Keep.cons rfl (Keep.cons rfl (Keep.cons rfl (Keep.cons rfl (Keep.cons rfl (Keep.nil))))))), HF6, hr2⟩⟩)
  replace H := itF c5 H
  refine cSet (i := 13) rfl (dF c5) ?_
  refine cF rfl ?_
  refine cExit ?_
  refine kX (kX (jX (kN (?_))))
  exact ofEnv (fun a hE => ⟨_, (Option.some.inj H).symm, ⟨D2, L4, hE.keep (Keep.cons rfl (Keep.cons rfl (Keep.cons rfl (Keep.cons rfl (Keep.cons rfl (Keep.cons rfl (Keep.nil))))))), HF4, ho4⟩⟩)
 rintro s1 a w5 rfl ⟨D2, L4, hE, HF7, ho4⟩
 replace H := Ho1
 refine go_k hE ?_
 have hs6 : G ⊆ D2 ++ G := sub_a sub_r
 refine kN (?_)
 refine hK3 _ _ ?_
 refine cSeq (fun K16 hK16 => ?_)
 refine cRgn [] trivial ?_
 refine sL (mv rfl) rfl ?_
 refine sL (mv rfl) rfl ?_
 refine sL (mv rfl) rfl ?_
 refine sL (mv rfl) rfl ?_
 replace H := bnd H; obtain ⟨t4, J4, H⟩ := H
 refine eCall isf73 rfl rfl rfl (f_slices_insertionSortCmpFunc_api_Lsa_fn49.ok (a0 := s1.2.2) (sub_n hG) J4 HF7 ho4) ?_
 rintro _ w6 ⟨N6, L6, rfl, HF8, ho6⟩
 obtain ⟨N7, hN3⟩ : ∃ N_, N_ = N6 ++ D2 := ⟨_, rfl⟩
 have HF9 := HF8; rw [← List.append_assoc N6 D2 F, ← hN3] at HF9
 have hs7 : D2 ++ G ⊆ N7 ++ G := frz_s hN3
 have hr3 := OwnS.lift (G' := (N7 ++ G)) ho6 (frz_c hN3)
 refine ⟨_, rfl, ?_⟩
 replace H := chk H; obtain ⟨c7, H⟩ := H
 refine lSet (i := 0) (v := .slice A_a0 t4.length c_a0) rfl (by rw [c7]) ?_
 refine lSet (i := 23) (v := .slice A_a0 t4.length c_a0) rfl (by rw [c7]) ?_
 refine lE ?_
 refine kN (?_)
 refine hK16 _ _ ?_
 replace H := bnd H; obtain ⟨y7, J20, Ho4⟩ := H
 refine cLoopB (f_slices_stableCmpFunc_api_Lsa_fn49.b2 a1) (fun (s4 : Int × (List T_api_Lsa)) a w => ∃ (D8 : Hp) (L20 : Hp), Env 63 [(0, .slice A_a0 s4.2.length c_a0), (1, .int .i64 a1), (2, .func (.func 49) [].toArray [].toArray), (6, .int .i64 s4.1)] a ∧ Fits z w (L20 ++ (D8 ++ (N7 ++ F))) ∧ OwnS (kShr (D8 ++ (N7 ++ G)) k_T_api_Lsa) L20 A_a0 c_a0 s4.2) J20 (fun a hE => ⟨[], L6, hE.keep (Keep.cons rfl (Keep.cons rfl (Keep.cons rfl (Keep.cons rfl (Keep.nil))))), HF9, hr3⟩) ?_ ?_
 ·rintro s4 a w19 y8 ⟨D8, L20, hE, HF37, ho20⟩ H Hx4
  refine go_ hE ?_
  obtain ⟨N31, hN19⟩ : ∃ N_, N_ = D8 ++ N7 := ⟨_, rfl⟩
  have HF38 := HF37; rw [← List.append_assoc D8 N7 F, ← hN19] at HF38
  have hs23 : N7 ++ G ⊆ N31 ++ G := frz_s hN19
  have hr19 := OwnS.lift (G' := (N31 ++ G)) ho20 (frz_c hN19)
  refine cSeq (fun K55 hK55 => ?_)
  refine cSeq (fun K56 hK56 => ?_)
  refine cRgn [] trivial ?_
  refine sL (mv rfl) rfl ?_
  refine sL (mv rfl) rfl ?_
  refine sL (bLss rfl rfl) rfl ?_
  refine lE ?_
  refine kN (?_)
  refine hK56 _ _ ?_
  by_cases c26 : s4.1 < a1
  ·replace H := itT c26 H
   refine cSet (i := 30) rfl (dT c26) ?_
   refine cT rfl ?_
   refine cSkip ?_
   refine kN (?_)
   refine hK55 _ _ ?_
   refine cBlock ?_
   refine cSeq (fun K57 hK57 => ?_)
   refine cRgn [] trivial ?_
   refine sL (mv rfl) rfl ?_
   refine sL (bMul rfl rfl) rfl ?_
   refine sL (asg rfl) rfl ?_
   refine sL (asg rfl) rfl ?_
   refine lE ?_
   refine kN (?_)
   refine hK57 _ _ ?_
   refine cSeq (fun K58 hK58 => ?_)
   replace H := bnd H; obtain ⟨y9, J19, Ho5⟩ := H
   refine cLoopB (f_slices_stableCmpFunc_api_Lsa_fn49.b1 a1 s4) (fun (s5 : Int × Int × (List T_api_Lsa)) a w => ∃ (D10 : Hp) (L24 : Hp), Env 63 [(0, .slice A_a0 s5.2.2.length c_a0), (1, .int .i64 a1), (2, .func (.func 49) [].toArray [].toArray), (6, .int .i64 s4.1), (7, .int .i64 s5.1), (8, .int .i64 s5.2.1)] a ∧ Fits z w (L24 ++ (D10 ++ (N31 ++ F))) ∧ OwnS (kShr (D10 ++ (N31 ++ G)) k_T_api_Lsa) L24 A_a0 c_a0 s5.2.2) J19 (fun a hE => ⟨[], L20, hE.keep (Keep.cons rfl (Keep.cons rfl (Keep.cons rfl (Keep.cons rfl (Keep.cons rfl (Keep.cons rfl (Keep.nil))))))), HF38, hr19⟩) ?_ ?_
   ·rintro s5 a w22 y10 ⟨D10, L24, hE, HF44, ho24⟩ H Hx5
    refine go_ hE ?_
    obtain ⟨N37, hN23⟩ : ∃ N_, N_ = D10 ++ N31 := ⟨_, rfl⟩
    have HF45 := HF44; rw [← List.append_assoc D10 N31 F, ← hN23] at HF45
    have hs27 : N31 ++ G ⊆ N37 ++ G := frz_s hN23
    have hr23 := OwnS.lift (G' := (N37 ++ G)) ho24 (frz_c hN23)
    refine cSeq (fun K67 hK67 => ?_)
    refine cSeq (fun K68 hK68 => ?_)
    refine cRgn [] trivial ?_
    refine sL (mv rfl) rfl ?_
    refine sL (mv rfl) rfl ?_
    refine sL (bLeq rfl rfl) rfl ?_
    refine lE ?_
    refine kN (?_)
    refine hK68 _ _ ?_
    by_cases c31 : s5.2.1 ≤ a1
    ·replace H := itT c31 H
     refine cSet (i := 35) rfl (dT c31) ?_
     refine cT rfl ?_
     refine cSkip ?_
     refine kN (?_)
     refine hK67 _ _ ?_
     refine cBlock ?_
     refine cSeq (fun K69 hK69 => ?_)
     refine cRgn [] trivial ?_
     refine sL (mv rfl) rfl ?_
     refine sL (mv rfl) rfl ?_
     refine sL (mv rfl) rfl ?_
     refine sL (mv rfl) rfl ?_
     refine sL (bAdd rfl rfl) rfl ?_
     refine sL (mv rfl) rfl ?_
     refine sL (mv rfl) rfl ?_
     replace H := bnd H; obtain ⟨t15, J17, H⟩ := H
     refine eCall isf74 rfl rfl rfl (f_slices_symMergeCmpFunc_api_Lsa_fn49.ok 64 (a0 := s5.2.2) (sub_n hG) J17 HF45 hr23) ?_
     rintro _ w23 ⟨N38, L25, rfl, HF46, ho25⟩
     obtain ⟨N39, hN24⟩ : ∃ N_, N_ = N38 ++ N37 := ⟨_, rfl⟩
     have HF47 := HF46; rw [← List.append_assoc N38 N37 F, ← hN24] at HF47
     have hs28 : N37 ++ G ⊆ N39 ++ G := frz_s hN24
     have hr24 := OwnS.lift (G' := (N39 ++ G)) ho25 (frz_c hN24)
     refine ⟨_, rfl, ?_⟩
     replace H := chk H; obtain ⟨c32, H⟩ := H
     refine lSet (i := 0) (v := .slice A_a0 t15.length c_a0) rfl (by rw [c32]) ?_
     refine lSet (i := 36) (v := .slice A_a0 t15.length c_a0) rfl (by rw [c32]) ?_
     refine lE ?_
     refine kN (?_)
     refine hK69 _ _ ?_
     refine cSeq (fun K70 hK70 => ?_)
     refine cRgn [] trivial ?_
     refine sL (mv rfl) rfl ?_
     refine sL (asg rfl) rfl ?_
     refine lE ?_
     refine kN (?_)
     refine hK70 _ _ ?_
     refine cRgn [] trivial ?_
     refine sL (mv rfl) rfl ?_
     refine sL (mv rfl) rfl ?_
     refine sL (bMul rfl rfl) rfl ?_
     refine sL (bAdd rfl rfl) rfl ?_
     refine sL (asg rfl) rfl ?_
     refine lE ?_
     refine jN (kN (?_))
     have hs29 : (N39 ++ G) ⊆ ((N38 ++ D10) ++ (N31 ++ G)) := by rw [hN24, hN23]; simp only [List.append_assoc]; exact sub_r
     have HF48 := Fits.conv (L' := (L25 ++ ((N38 ++ D10) ++ (N31 ++ F)))) HF47 (by rw [hN24, hN23]; simp only [List.append_assoc])
     exact ofEnv (fun a hE => ⟨_, (Option.some.inj H).symm, ⟨(N38 ++ D10), L25, hE.keep (Keep.cons rfl (Keep.cons rfl (Keep.cons rfl (Keep.cons rfl (Keep.cons rfl (Keep.cons rfl (Keep.nil))))))), HF48, (OwnS.lift hr24 hs29)⟩⟩)
    replace H := itF c31 H
    refine cSet (i := 35) rfl (dF c31) ?_
    refine cF rfl ?_
    refine cExit ?_
    refine kX (kX (jX (kN (?_))))
    have hs30 : (N37 ++ G) ⊆ ((D10) ++ (N31 ++ G)) := by rw [hN23]; simp only [List.append_assoc]; exact sub_r
    have HF49 := Fits.conv (L' := (L24 ++ ((D10) ++ (N31 ++ F)))) HF45 (by rw [hN23]; simp only [List.append_assoc])
    exact ofEnv (fun a hE => ⟨_, (Option.some.inj H).symm, ⟨(D10), L24, hE.keep (Keep.cons rfl (Keep.cons rfl (Keep.cons rfl (Keep.cons rfl (Keep.cons rfl (Keep.cons rfl (Keep.nil))))))), HF49, (OwnS.lift hr23 hs30)⟩⟩)
   rintro s5 a w24 rfl ⟨D10, L24, hE, HF50, ho24⟩
   replace H := Ho5
   refine go_k hE ?_
   obtain ⟨N40, hN25⟩ : ∃ N_, N_ = D10 ++ N31 := ⟨_, rfl⟩
   have HF51 := HF50; rw [← List.append_assoc D10 N31 F, ← hN25] at HF51
   have hs31 : N31 ++ G ⊆ N40 ++ G := frz_s hN25
   have hr25 := OwnS.lift (G' := (N40 ++ G)) ho24 (frz_c hN25)
   refine kN (?_)
   refine hK58 _ _ ?_
   refine cSeq (fun K71 hK71 => ?_)
   refine cSeq (fun K72 hK72 => ?_)
   refine cRgn [] trivial ?_
   refine sL (mv rfl) rfl ?_
   refine sL (mv rfl) rfl ?_
   refine sL (bAdd rfl rfl) rfl ?_
   refine sL (asg rfl) rfl ?_
   refine lE ?_
   refine kN (?_)
   refine hK72 _ _ ?_
   refine cSeq (fun K73 hK73 => ?_)
   refine cRgn [] trivial ?_
   refine sL (mv rfl) rfl ?_
   refine sL (mv rfl) rfl ?_
   refine sL (bLss rfl rfl) rfl ?_
   refine lE ?_
   refine kN (?_)
   refine hK73 _ _ ?_
   by_cases c33 : (IntKind.i64.wrap (s5.1 + s4.1)) < a1
   ·replace H := itT c33 H
    refine cSet (i := 54) rfl (dT c33) ?_
    refine cT rfl ?_
    refine cRgn [] trivial ?_
    refine sL (mv rfl) rfl ?_
    refine sL (mv rfl) rfl ?_
    refine sL (mv rfl) rfl ?_
    refine sL (mv rfl) rfl ?_
    refine sL (mv rfl) rfl ?_
    replace H := bnd H; obtain ⟨t16, J18, H⟩ := H
    refine eCall isf74 rfl rfl rfl (f_slices_symMergeCmpFunc_api_Lsa_fn49.ok 64 (a0 := s5.2.2) (sub_n hG) J18 HF51 hr25) ?_
    rintro _ w25 ⟨N41, L26, rfl, HF52, ho26⟩
    obtain ⟨N42, hN26⟩ : ∃ N_, N_ = N41 ++ N40 := ⟨_, rfl⟩
    have HF53 := HF52; rw [← List.append_assoc N41 N40 F, ← hN26] at HF53
    have hs32 : N40 ++ G ⊆ N42 ++ G := frz_s hN26
    have hr26 := OwnS.lift (G' := (N42 ++ G)) ho26 (frz_c hN26)
    refine ⟨_, rfl, ?_⟩
    replace H := chk H; obtain ⟨c34, H⟩ := H
    refine lSet (i := 0) (v := .slice A_a0 t16.length c_a0) rfl (by rw [c34]) ?_
    refine lSet (i := 55) (v := .slice A_a0 t16.length c_a0) rfl (by rw [c34]) ?_
    refine lE ?_
    refine kN (?_)
    refine hK71 _ _ ?_
    refine cRgn [] trivial ?_
    refine sL (mv rfl) rfl ?_
    refine sL (bMul rfl rfl) rfl ?_
    refine sL (asg rfl) rfl ?_
    refine lE ?_
    refine jN (kN (?_))
    have hs33 : (N42 ++ G) ⊆ ((N41 ++ (D10 ++ D8)) ++ (N7 ++ G)) := by rw [hN26, hN25, hN19]; simp only [List.append_assoc]; exact sub_r
    have HF54 := Fits.conv (L' := (L26 ++ ((N41 ++ (D10 ++ D8)) ++ (N7 ++ F)))) HF53 (by rw [hN26, hN25, hN19]; simp only [List.append_assoc])
    exact ofEnv (fun a hE => ⟨_, (Option.some.inj H).symm, ⟨(N41 ++ (D10 ++ D8)), L26, hE.keep (Keep.cons rfl (Keep.cons rfl (Keep.cons rfl (Keep.cons rfl (Keep.nil))))), HF54, (OwnS.lift hr26 hs33)⟩⟩)
   replace H := itF c33 H
   refine cSet (i := 54) rfl (dF c33) ?_
   refine cF rfl ?_
   refine cSkip ?_
   refine kN (?_)
   refine hK71 _ _ ?_
   refine cRgn [] trivial ?_
   refine sL (mv rfl) rfl ?_
   refine sL (bMul rfl rfl) rfl ?_
   refine sL (asg rfl) rfl ?_
   refine lE ?_
   refine jN (kN (?_))
   have hs34 : (N40 ++ G) ⊆ ((D10 ++ D8) ++ (N7 ++ G)) := by rw [hN25, hN19]; simp only [List.append_assoc]; exact sub_r
   have HF55 := Fits.conv (L' := (L24 ++ ((D10 ++ D8) ++ (N7 ++ F)))) HF51 (by rw [hN25, hN19]; simp only [List.append_assoc])
   exact ofEnv (fun a hE => ⟨_, (Option.some.inj H).symm, ⟨(D10 ++ D8), L24, hE.keep (Keep.cons rfl (Keep.cons rfl (Keep.cons rfl (Keep.cons rfl (Keep.nil))))), HF55, (OwnS.lift hr25 hs34)⟩⟩)
  replace H := itF c26 H
  refine cSet (i := 30) rfl (dF c26) ?_
  refine cF rfl ?_
  refine cExit ?_
  refine kX (kX (jX (kN (?_))))
  have hs35 : (N31 ++ G) ⊆ ((D8) ++ (N7 ++ G)) := by rw [hN19]; simp only [List.append_assoc]; exact sub_r
  have HF56 := Fits.conv (L' := (L20 ++ ((D8) ++ (N7 ++ F)))) HF38 (by rw [hN19]; simp only [List.append_assoc])
  exact ofEnv (fun a hE => ⟨_, (Option.some.inj H).symm, ⟨(D8), L20, hE.keep (Keep.cons rfl (Keep.cons rfl (Keep.cons rfl (Keep.cons rfl (Keep.nil))))), HF56, (OwnS.lift hr19 hs35)⟩⟩)
 rintro s4 a w26 rfl ⟨D8, L20, hE, HF57, ho20⟩
 replace H := Ho4
 refine go_k hE ?_
 obtain ⟨N43, hN27⟩ : ∃ N_, N_ = D8 ++ N7 := ⟨_, rfl⟩
 have HF58 := HF57; rw [← List.append_assoc D8 N7 F, ← hN27] at HF58
 have hs36 : N7 ++ G ⊆ N43 ++ G := frz_s hN27
 have hr27 := OwnS.lift (G' := (N43 ++ G)) ho20 (frz_c hN27)
 obtain rfl := Option.some.inj H
 refine end0 rfl ?_
 exact ⟨N43, L20, rfl, HF58, hr27⟩
/-! ### slices.SortStableFunc[[]plenum/api.Lsa,plenum/api.Lsa] (function 48) -/
abbrev f_slices_SortStableFunc_api_Lsa_api_Lsa_fn49.R := List T_api_Lsa
noncomputable def f_slices_SortStableFunc_api_Lsa_api_Lsa_fn49 (a0 : List T_api_Lsa) : Option f_slices_SortStableFunc_api_Lsa_api_Lsa_fn49.R := ((f_slices_stableCmpFunc_api_Lsa_fn49 a0 (a0.length : Int)).bind fun t1 => (if t1.length = a0.length then some t1 else none))
set_option maxHeartbeats 1000000 in
theorem f_slices_SortStableFunc_api_Lsa_api_Lsa_fn49.ok {z w : World} {F G : Hp} (hG : G ⊆ F) {a0 : List T_api_Lsa} {A_a0 : Option Addr} {c_a0 : Nat} {L_a0 : Hp} {r : f_slices_SortStableFunc_api_Lsa_api_Lsa_fn49.R} (H : f_slices_SortStableFunc_api_Lsa_api_Lsa_fn49 a0 = some r) (HF : Fits z w (L_a0 ++ F)) (ho_a0 : OwnS (kShr G k_T_api_Lsa) L_a0 A_a0 c_a0 a0) :
  Calls Try.prog 48 [.slice A_a0 a0.length c_a0, .func (.func 49) [].toArray [].toArray].toArray w fun e w' => ∃ (N : Hp) (M0 : Hp), e = .returned (.tuple #[]) ∧ Fits z w' (M0 ++ (N ++ F)) ∧ OwnS (kShr (N ++ G) k_T_api_Lsa) M0 A_a0 c_a0 r := by
 unfold f_slices_SortStableFunc_api_Lsa_api_Lsa_fn49 at H
 refine enter0 Try.func48 rfl Try.ntmps48 rfl (E := [(0, .slice A_a0 a0.length c_a0), (1, .func (.func 49) [].toArray [].toArray)]) rfl ?_
 refine cRgn [] trivial ?_
 refine sL (mv rfl) rfl ?_
 refine sL (mv rfl) rfl ?_
 refine sL (lnS rfl Try.underlying24) rfl ?_
 refine sL (mv rfl) rfl ?_
 replace H := bnd H; obtain ⟨t1, J1, H⟩ := H
 refine eCall isf61 rfl rfl rfl (f_slices_stableCmpFunc_api_Lsa_fn49.ok (a0 := a0) hG J1 HF ho_a0) ?_
 rintro _ w1 ⟨N1, L1, rfl, HF1, ho1⟩
 have hs1 : G ⊆ N1 ++ G := sub_a sub_r
 refine ⟨_, rfl, ?_⟩
 replace H := chk H; obtain ⟨c1, H⟩ := H
 refine lSet (i := 0) (v := .slice A_a0 t1.length c_a0) rfl (by rw [c1]) ?_
 refine lSet (i := 4) (v := .slice A_a0 t1.length c_a0) rfl (by rw [c1]) ?_
 refine lSet (i := 5) (v := .slice A_a0 t1.length c_a0) rfl (by rw [c1]) ?_
 refine lE ?_
 obtain rfl := Option.some.inj H
 refine end0 rfl ?_
 exact ⟨N1, L1, rfl, HF1, ho1⟩
/-! ### plenum/topo.live (function 21) -/
abbrev f_topo_live.R := List T_api_Lsa
noncomputable def f_topo_live.b0 (a0 : List T_api_Lsa) (a1 : Int) (s1 : (List T_api_Lsa) × Int) : Option (Sum ((List T_api_Lsa) × Int) (Sum ((List T_api_Lsa) × Int) f_topo_live.R)) := (if s1.2 < (a0.length : Int) then (if 0 ≤ s1.2 then (if ((rd a0 s1.2).f_Head.f_Kind) = a1 then (if ((rd a0 s1.2).f_Head.f_Age) < 3600 then (if (s1.1.length + 1) * 144 ≤ 140737488355328 then some (.inl ((s1.1 ++ [(rd a0 s1.2)]), IntKind.i64.wrap (s1.2 + 1))) else none) else some (.inl (s1.1, IntKind.i64.wrap (s1.2 + 1)))) else some (.inl (s1.1, IntKind.i64.wrap (s1.2 + 1)))) else none) else some (.inr (.inl (s1.1, s1.2))))
noncomputable def f_topo_live (a0 : List T_api_Lsa) (a1 : Int) : Option f_topo_live.R := ((loopO (f_topo_live.b0 a0 a1) ([], 0)).bind fun y1 => match y1 with | .inl s1 => ((f_slices_SortStableFunc_api_Lsa_api_Lsa_fn49 s1.1).bind fun t1 => (if t1.length = s1.1.length then some t1 else none)) | .inr r_ => some r_)
set_option maxHeartbeats 1000000 in
theorem f_topo_live.ok {z w : World} {F G : Hp} (hG : G ⊆ F) {a0 : List T_api_Lsa} {A_a0 : Option Addr} {c_a0 : Nat} {X_a0 : Hp} {a1 : Int} {r : f_topo_live.R} (H : f_topo_live a0 a1 = some r) (HF : Fits z w F) (hX_a0 : X_a0 ⊆ F) (hr_a0 : RdS (kShr G k_T_api_Lsa) X_a0 A_a0 c_a0 a0) :
  Calls Try.prog 21 [.slice A_a0 a0.length c_a0, .int .i64 a1].toArray w fun e w' => ∃ (N : Hp) (A0 : Option Addr) (c0 : Nat) (L0 : Hp), e = .returned (.slice A0 r.length c0) ∧ Fits z w' (L0 ++ (N ++ F)) ∧ OwnS (kShr (N ++ G) k_T_api_Lsa) L0 A0 c0 r := by
 unfold f_topo_live at H
 refine enter0 Try.func21 rfl Try.ntmps21 rfl (E := [(0, .slice A_a0 a0.length c_a0), (1, .int .i64 a1)]) rfl ?_
 refine cSeq (fun K1 hK1 => ?_)
 refine cRgn [] trivial ?_
 refine sL (asg rfl) rfl ?_
 refine lE ?_
 refine kN (?_)
 refine hK1 _ _ ?_
 refine cSeq (fun K2 hK2 => ?_)
 refine cRgn [] trivial ?_
 refine sL (asg rfl) rfl ?_
 refine lE ?_
 refine kN (?_)
 refine hK2 _ _ ?_
 refine cSeq (fun K3 hK3 => ?_)
 refine cSeq (fun K4 hK4 => ?_)
 refine cRgn [] trivial ?_
 refine sL (mv rfl) rfl ?_
 refine sL (lnS rfl Try.underlying24) rfl ?_
 refine sL (mv rfl) rfl ?_
 refine lE ?_
 refine kN (?_)
 refine hK4 _ _ ?_
 replace H := bnd H; obtain ⟨y1, J2, Ho1⟩ := H
 refine cLoopB (f_topo_live.b0 a0 a1) (fun (s1 : (List T_api_Lsa) × Int) a w => ∃ (A12 : Option Addr) (c20 : Nat) (L6 : Hp), Env 33 [(1, .int .i64 a1), (4, .slice none 0 0), (5, .slice A12 s1.1.length c20), (8, .slice A_a0 a0.length c_a0), (9, .int .i64 (a0.length : Int)), (10, .int .i64 s1.2)] a ∧ Fits z w (L6 ++ F) ∧ OwnS (kShr G k_T_api_Lsa) L6 A12 c20 s1.1) J2 (fun a hE => ⟨none, 0, [], hE.keep (Keep.cons rfl (Keep.cons rfl (Keep.cons rfl (Keep.cons rfl (Keep.cons rfl (Keep.cons rfl (Keep.nil))))))), HF, OwnS.nil⟩) ?_ ?_
 ·rintro s1 a w9 y2 ⟨A12, c20, L6, hE, HF10, ho6⟩ H Hx1
  refine go_ hE ?_
  refine cSeq (fun K15 hK15 => ?_)
  refine cRgn [] trivial ?_
  refine sL (bLss rfl rfl) rfl ?_
  refine lE ?_
  refine kN (?_)
  refine hK15 _ _ ?_
  refine cSeq (fun K16 hK16 => ?_)
  by_cases c21 : s1.2 < (a0.length : Int)
  ·replace H := itT c21 H
   refine cSet (i := 11) rfl (dT c21) ?_
   refine cT rfl ?_
   refine cSkip ?_
   refine kN (?_)
   refine hK16 _ _ ?_
   refine cSeq (fun K17 hK17 => ?_)
   refine cBlock ?_
   refine cSeq (fun K18 hK18 => ?_)
   refine cRgn [] trivial ?_
   replace H := chk H; obtain ⟨c22, H⟩ := H
   obtain ⟨g5, o3, e6, rfl, hk3, q3⟩ := RdS.at_ hr_a0 c22 c21
   obtain ⟨A13, c23, A14, c24, A15, c25, rfl, hr7, hr8, hr9⟩ := rd_T_api_Lsa hk3
   refine sL (ia rfl rfl Try.underlying24 ti44 c22 c21) rfl ?_
   refine sL (ldA rfl ti44 rfl rfl (fun j v hj => HF10.cells ((sub_a hX_a0)) (q3 j v hj))) rfl ?_
   refine eW (oAlloc HF10 ti44) rfl ?_
   rintro _ w10 ⟨g6, rfl, HF11⟩
   refine eS (oSt (l1 := [.int .i64 ((rd a0 s1.2).f_Head.f_Age), .int .i64 ((rd a0 s1.2).f_Head.f_Kind), .int .i64 ((rd a0 s1.2).f_Head.f_Id), .int .i64 ((rd a0 s1.2).f_Head.f_Adv), .int .i64 ((rd a0 s1.2).f_Head.f_Seq), .int .i64 ((rd a0 s1.2).f_Head.f_Sum), .int .i64 ((rd a0 s1.2).f_Head.f_Len), .int .i64 ((rd a0 s1.2).f_Flags), .slice A13 ((rd a0 s1.2).f_Links).length c23, .int .i64 ((rd a0 s1.2).f_Bits), .slice A14 ((rd a0 s1.2).f_Routers).length c24, .slice A15 ((rd a0 s1.2).f_Verts).length c25]) HF11 rfl rfl ti44 rfl (ones rfl) (Nat.le_of_ble_eq_true rfl) rfl) ?_
   rintro w11 HF12
   refine lE ?_
   refine kN (?_)
   refine hK18 _ _ ?_
   refine cSeq (fun K19 hK19 => ?_)
   refine cRgn [(5, 19)] ⟨rfl, trivial⟩ ?_
   refine sL (fa44_0 rfl) rfl ?_
   refine sL (fa41_1 rfl) rfl ?_
   refine sL (ld rfl Try.underlying3 rfl (HF12.box (mem_h) rfl)) rfl ?_
   refine sL (mv rfl) rfl ?_
   refine sL (bEql rfl rfl) rfl ?_
   refine sL (mv rfl) rfl ?_
   by_cases c26 : ((rd a0 s1.2).f_Head.f_Kind) = a1
   ·replace H := itT c26 H
    refine lSet (i := 19) rfl (dT c26) ?_
    refine sG rfl rfl (fa44_0 rfl) rfl ?_
    refine sG rfl rfl (fa41_0 rfl) rfl ?_
    refine sG rfl rfl (ld rfl Try.underlying3 rfl (HF12.box (mem_h) rfl)) rfl ?_
    refine sG rfl rfl (bLss rfl rfl) rfl ?_
    refine sL (pkT rfl rfl) rfl ?_
    refine lE ?_
    refine kN (?_)
    refine hK19 _ _ ?_
    by_cases c27 : ((rd a0 s1.2).f_Head.f_Age) < 3600
    ·replace H := itT c27 H
     refine cSet (i := 24) rfl (dT c27) ?_
     refine cT rfl ?_
     refine cRgn [] trivial ?_
     refine sL (mv rfl) rfl ?_
     refine sL (ldA (cs := [.int .i64 ((rd a0 s1.2).f_Head.f_Age), .int .i64 ((rd a0 s1.2).f_Head.f_Kind), .int .i64 ((rd a0 s1.2).f_Head.f_Id), .int .i64 ((rd a0 s1.2).f_Head.f_Adv), .int .i64 ((rd a0 s1.2).f_Head.f_Seq), .int .i64 ((rd a0 s1.2).f_Head.f_Sum), .int .i64 ((rd a0 s1.2).f_Head.f_Len), .int .i64 ((rd a0 s1.2).f_Flags), .slice A13 ((rd a0 s1.2).f_Links).length c23, .int .i64 ((rd a0 s1.2).f_Bits), .slice A14 ((rd a0 s1.2).f_Routers).length c24, .slice A15 ((rd a0 s1.2).f_Verts).length c25]) rfl ti44 rfl rfl (HF12.boxes (o := 0) (n := 12) (mem_h) rfl)) rfl ?_
     refine eW (oLit (r := [.int .i64 ((rd a0 s1.2).f_Head.f_Age), .int .i64 ((rd a0 s1.2).f_Head.f_Kind), .int .i64 ((rd a0 s1.2).f_Head.f_Id), .int .i64 ((rd a0 s1.2).f_Head.f_Adv), .int .i64 ((rd a0 s1.2).f_Head.f_Seq), .int .i64 ((rd a0 s1.2).f_Head.f_Sum), .int .i64 ((rd a0 s1.2).f_Head.f_Len), .int .i64 ((rd a0 s1.2).f_Flags), .slice A13 ((rd a0 s1.2).f_Links).length c23, .int .i64 ((rd a0 s1.2).f_Bits), .slice A14 ((rd a0 s1.2).f_Routers).length c24, .slice A15 ((rd a0 s1.2).f_Verts).length c25]) (kShr G k_T_api_Lsa) [(rd a0 s1.2)] HF12 Try.underlying24 ti44 rfl rfl rfl rfl ⟨[], [], [.int .i64 ((rd a0 s1.2).f_Head.f_Age), .int .i64 ((rd a0 s1.2).f_Head.f_Kind), .int .i64 ((rd a0 s1.2).f_Head.f_Id), .int .i64 ((rd a0 s1.2).f_Head.f_Adv), .int .i64 ((rd a0 s1.2).f_Head.f_Seq), .int .i64 ((rd a0 s1.2).f_Head.f_Sum), .int .i64 ((rd a0 s1.2).f_Head.f_Len), .int .i64 ((rd a0 s1.2).f_Flags), .slice A13 ((rd a0 s1.2).f_Links).length c23, .int .i64 ((rd a0 s1.2).f_Bits), .slice A14 ((rd a0 s1.2).f_Routers).length c24, .slice A15 ((rd a0 s1.2).f_Verts).length c25], _, rfl, rfl, ⟨rfl, mk_T_api_Lsa (x := (rd a0 s1.2)) (hr7) (hr8) (hr9)⟩, ⟨rfl, rfl⟩⟩ rfl rfl) rfl ?_
     rintro _ w12 ⟨L7, A16, c28, rfl, HF13, ho7⟩
     replace H := chk H; obtain ⟨c29, H⟩ := H
     have HF14 := HF13.perm (perm_f (perm_c pR))
     refine eW (oApp (xs := s1.1) (ys := ([(rd a0 s1.2)])) (kShr G k_T_api_Lsa) HF14 rfl rfl Try.underlying24 Try.underlying24 ti44 rfl ho6 (srcR shrS ho7.rd HF14 (sub_a sub_h)) c29 rfl) rfl ?_
     rintro _ w13 ⟨L8, A17, c30, rfl, HF15, ho8⟩
     refine sL (asg rfl) rfl ?_
     refine lE ?_
     refine jN (kN (?_))
     refine hK17 _ _ ?_
     refine cRgn [] trivial ?_
     refine sL (bAdd rfl rfl) rfl ?_
     refine sL (mv rfl) rfl ?_
     refine lE ?_
     refine kN (?_)
     have HF16 := HF15.sublist (sl_a (sl_da (sl_dc sR)))
     exact ofEnv (fun a hE => ⟨_, (Option.some.inj H).symm, ⟨_, _, L8, hE.keep (Keep.cons rfl (Keep.cons rfl (Keep.cons rfl (Keep.cons rfl (Keep.cons rfl (Keep.cons rfl (Keep.nil))))))), HF16, ho8⟩⟩)
    replace H := itF c27 H
    refine cSet (i := 24) rfl (dF c27) ?_
    refine cF rfl ?_
    refine cSkip ?_
    refine jN (kN (?_))
    refine hK17 _ _ ?_
    refine cRgn [] trivial ?_
    refine sL (bAdd rfl rfl) rfl ?_
    refine sL (mv rfl) rfl ?_
    refine lE ?_
    refine kN (?_)
    have HF17 := HF12.sublist (sl_dc (sl_a sR))
    exact ofEnv (fun a hE => ⟨_, (Option.some.inj H).symm, ⟨_, _, L6, hE.keep (Keep.cons rfl (Keep.cons rfl (Keep.cons rfl (Keep.cons rfl (Keep.cons rfl (Keep.cons rfl (Keep.nil))))))), HF17, ho6⟩⟩)
   replace H := itF c26 H
   refine lSet (i := 19) rfl (dF c26) ?_
   refine sN rfl rfl rfl rfl ?_
   refine sN rfl rfl rfl rfl ?_
   refine sN rfl rfl rfl rfl ?_
   refine sN rfl rfl rfl rfl ?_
   refine sL (pkF rfl rfl) rfl ?_
   refine lE ?_
   refine kN (?_)
   refine hK19 _ _ ?_
   refine cF rfl ?_
   refine cSkip ?_
   refine jN (kN (?_))
   refine hK17 _ _ ?_
   refine cRgn [] trivial ?_
   refine sL (bAdd rfl rfl) rfl ?_
   refine sL (mv rfl) rfl ?_
   refine lE ?_
   refine kN (?_)
   have HF18 := HF12.sublist (sl_dc (sl_a sR))
   exact ofEnv (fun a hE => ⟨_, (Option.some.inj H).symm, ⟨_, _, L6, hE.keep (Keep.cons rfl (Keep.cons rfl (Keep.cons rfl (Keep.cons rfl (Keep.cons rfl (Keep.cons rfl (Keep.nil))))))), HF18, ho6⟩⟩)
  replace H := itF c21 H
  refine cSet (i := 11) rfl (dF c21) ?_
  refine cF rfl ?_
  refine cExit ?_
  refine kX (kX (jX (kN (?_))))
  exact ofEnv (fun a hE => ⟨_, (Option.some.inj H).symm, ⟨_, _, L6, hE.keep (Keep.cons rfl (Keep.cons rfl (Keep.cons rfl (Keep.cons rfl (Keep.cons rfl (Keep.cons rfl (Keep.nil))))))), HF10, ho6⟩⟩)
 rintro s1 a w14 rfl ⟨A12, c20, L6, hE, HF19, ho6⟩
 replace H := Ho1
 refine go_k hE ?_
 refine kN (?_)
 refine hK3 _ _ ?_
 refine cSeq (fun K20 hK20 => ?_)
 refine cRgn [] trivial ?_
 refine sL (mv rfl) rfl ?_
 replace H := bnd H; obtain ⟨t1, J1, H⟩ := H
 refine eCall isf48 rfl rfl rfl (f_slices_SortStableFunc_api_Lsa_api_Lsa_fn49.ok (a0 := s1.1) hG J1 HF19 ho6) ?_
 rintro _ w15 ⟨N1, L9, rfl, HF20, ho9⟩
 have hs1 : G ⊆ N1 ++ G := sub_a sub_r
 refine ⟨_, rfl, ?_⟩
 replace H := chk H; obtain ⟨c31, H⟩ := H
 refine lSet (i := 5) (v := .slice A12 t1.length c20) rfl (by rw [c31]) ?_
 refine lSet (i := 30) (v := .slice A12 t1.length c20) rfl (by rw [c31]) ?_
 refine lE ?_
 refine kN (?_)
 refine hK20 _ _ ?_
 refine cSeq (fun K21 hK21 => ?_)
 refine cRgn [] trivial ?_
 refine sL (mv rfl) rfl ?_
 refine sL (asg rfl) rfl ?_
 refine lE ?_
 refine kN (?_)
 refine hK21 _ _ ?_
 refine cRet ?_
 obtain rfl := Option.some.inj H
 refine ret1 rfl rfl ?_
 exact ⟨N1, _, _, L9, rfl, HF20, ho9⟩
/-! ### plenum/topo.Map$1 (function 22) -/
abbrev f_topo_Map_1.R := Bool
noncomputable def f_topo_Map_1 (a0 : T_api_Lsa) : Option f_topo_Map_1.R := some (!decide (a0.f_Head.f_Id = a0.f_Head.f_Adv))
set_option maxHeartbeats 1000000 in
theorem f_topo_Map_1.ok {z w : World} {F G : Hp} (hG : G ⊆ F) {a0 : T_api_Lsa} {A_a0_8 : Option Addr} {c_a0_8 : Nat} {X_a0_8 : Hp} {A_a0_10 : Option Addr} {c_a0_10 : Nat} {X_a0_10 : Hp} {A_a0_11 : Option Addr} {c_a0_11 : Nat} {X_a0_11 : Hp} {r : f_topo_Map_1.R} (H : f_topo_Map_1 a0 = some r) (HF : Fits z w F) (hX_a0_8 : X_a0_8 ⊆ F) (hr_a0_8 : RdS k_T_api_Link X_a0_8 A_a0_8 c_a0_8 a0.f_Links) (hX_a0_10 : X_a0_10 ⊆ F) (hr_a0_10 : RdS (kInt .i64) X_a0_10 A_a0_10 c_a0_10 a0.f_Routers) (hX_a0_11 : X_a0_11 ⊆ F) (hr_a0_11 : RdS k_T_api_Vert X_a0_11 A_a0_11 c_a0_11 a0.f_Verts) :
  Calls Try.prog 22 [.agg [.int .i64 a0.f_Head.f_Age, .int .i64 a0.f_Head.f_Kind, .int .i64 a0.f_Head.f_Id, .int .i64 a0.f_Head.f_Adv, .int .i64 a0.f_Head.f_Seq, .int .i64 a0.f_Head.f_Sum, .int .i64 a0.f_Head.f_Len, .int .i64 a0.f_Flags, .slice A_a0_8 a0.f_Links.length c_a0_8, .int .i64 a0.f_Bits, .slice A_a0_10 a0.f_Routers.length c_a0_10, .slice A_a0_11 a0.f_Verts.length c_a0_11].toArray].toArray w fun e w' => e = .returned (.bool r) ∧ Fits z w' F := by
 unfold f_topo_Map_1 at H
 refine enter0 Try.func22 rfl Try.ntmps22 rfl (E := [(0, .agg [.int .i64 a0.f_Head.f_Age, .int .i64 a0.f_Head.f_Kind, .int .i64 a0.f_Head.f_Id, .int .i64 a0.f_Head.f_Adv, .int .i64 a0.f_Head.f_Seq, .int .i64 a0.f_Head.f_Sum, .int .i64 a0.f_Head.f_Len, .int .i64 a0.f_Flags, .slice A_a0_8 a0.f_Links.length c_a0_8, .int .i64 a0.f_Bits, .slice A_a0_10 a0.f_Routers.length c_a0_10, .slice A_a0_11 a0.f_Verts.length c_a0_11].toArray)]) rfl ?_
 refine cSeq (fun K1 hK1 => ?_)
 refine cRgn [] trivial ?_
 refine eW (oBox HF rfl) rfl ?_
 rintro _ w1 ⟨g1, rfl, HF1⟩
 refine sL (asg rfl) rfl ?_
 refine lE ?_
 refine kN (?_)
 refine hK1 _ _ ?_
 refine cSeq (fun K2 hK2 => ?_)
 refine cRgn [] trivial ?_
 refine sL (fa44_0 rfl) rfl ?_
 refine sL (fa41_2 rfl) rfl ?_
 refine sL (ld rfl Try.underlying3 rfl (HF1.box (mem_h) rfl)) rfl ?_
 refine sL (fa44_0 rfl) rfl ?_
 refine sL (fa41_3 rfl) rfl ?_
 refine sL (ld rfl Try.underlying3 rfl (HF1.box (mem_h) rfl)) rfl ?_
 refine sL (bNeq rfl rfl) rfl ?_
 refine sL (asg rfl) rfl ?_
 refine lE ?_
 refine kN (?_)
 refine hK2 _ _ ?_
 refine cRet ?_
 obtain rfl := Option.some.inj H
 refine ret1 rfl rfl ?_
 have HF2 := HF1.sublist (sl_dc sR)
 exact ⟨rfl, HF2⟩
end Go.Proofs.Ytbjnbjgiidcfjaa
