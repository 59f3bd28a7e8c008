/-
  The functions that the abstract machine runs are the program's own, compiled: one equation each, by the kernel.
-/
import Derived.Test.YtadcebncbpopdaaGreatDoorLit1
import Derived.Test.YtadcebncbpopdaaGreatDoorLit2
import Derived.Test.YtadcebncbpopdaaGreatDoorAmHook
import Derived.Test.YtadcebncbpopdaaGreatDoorChecked
import Derived.KernelRfl
set_option maxRecDepth 100000
namespace Go.AM
open Go.Proofs
theorem c4 : compFun Tryz.prog Tryz.f4 = some a4 := by kernel_rfl
theorem n4 : (Tryz.f4.name == "runtime.NumGoroutine") = false := by kernel_rfl
theorem c5 : compFun Tryz.prog Tryz.f5 = some a5 := by kernel_rfl
theorem n5 : (Tryz.f5.name == "runtime.NumGoroutine") = false := by kernel_rfl
theorem c6 : compFun Tryz.prog Tryz.f6 = some a6 := by kernel_rfl
theorem n6 : (Tryz.f6.name == "runtime.NumGoroutine") = false := by kernel_rfl
theorem c7 : compFun Tryz.prog Tryz.f7 = some a7 := by kernel_rfl
theorem n7 : (Tryz.f7.name == "runtime.NumGoroutine") = false := by kernel_rfl
theorem c8 : compFun Tryz.prog Tryz.f8 = some a8 := by kernel_rfl
theorem n8 : (Tryz.f8.name == "runtime.NumGoroutine") = false := by kernel_rfl
theorem c9 : compFun Tryz.prog Tryz.f9 = some a9 := by kernel_rfl
theorem n9 : (Tryz.f9.name == "runtime.NumGoroutine") = false := by kernel_rfl
theorem c10 : compFun Tryz.prog Tryz.f10 = some a10 := by kernel_rfl
theorem n10 : (Tryz.f10.name == "runtime.NumGoroutine") = false := by kernel_rfl
theorem c11 : compFun Tryz.prog Tryz.f11 = some a11 := by kernel_rfl
theorem n11 : (Tryz.f11.name == "runtime.NumGoroutine") = false := by kernel_rfl
theorem c12 : compFun Tryz.prog Tryz.f12 = some a12 := by kernel_rfl
theorem n12 : (Tryz.f12.name == "runtime.NumGoroutine") = false := by kernel_rfl
theorem c13 : compFun Tryz.prog Tryz.f13 = some a13 := by kernel_rfl
theorem n13 : (Tryz.f13.name == "runtime.NumGoroutine") = false := by kernel_rfl
theorem c14 : compFun Tryz.prog Tryz.f14 = some a14 := by kernel_rfl
theorem n14 : (Tryz.f14.name == "runtime.NumGoroutine") = false := by kernel_rfl
theorem c15 : compFun Tryz.prog Tryz.f15 = some a15 := by kernel_rfl
theorem n15 : (Tryz.f15.name == "runtime.NumGoroutine") = false := by kernel_rfl
theorem c16 : compFun Tryz.prog Tryz.f16 = some a16 := by kernel_rfl
theorem n16 : (Tryz.f16.name == "runtime.NumGoroutine") = false := by kernel_rfl
theorem c17 : compFun Tryz.prog Tryz.f17 = some a17 := by kernel_rfl
theorem n17 : (Tryz.f17.name == "runtime.NumGoroutine") = false := by kernel_rfl
theorem c18 : compFun Tryz.prog Tryz.f18 = some a18 := by kernel_rfl
theorem n18 : (Tryz.f18.name == "runtime.NumGoroutine") = false := by kernel_rfl
theorem c19 : compFun Tryz.prog Tryz.f19 = some a19 := by kernel_rfl
theorem n19 : (Tryz.f19.name == "runtime.NumGoroutine") = false := by kernel_rfl
theorem c20 : compFun Tryz.prog Tryz.f20 = some a20 := by kernel_rfl
theorem n20 : (Tryz.f20.name == "runtime.NumGoroutine") = false := by kernel_rfl
theorem c21 : compFun Tryz.prog Tryz.f21 = some a21 := by kernel_rfl
theorem n21 : (Tryz.f21.name == "runtime.NumGoroutine") = false := by kernel_rfl
theorem c22 : compFun Tryz.prog Tryz.f22 = some a22 := by kernel_rfl
theorem n22 : (Tryz.f22.name == "runtime.NumGoroutine") = false := by kernel_rfl
theorem c23 : compFun Tryz.prog Tryz.f23 = some a23 := by kernel_rfl
theorem n23 : (Tryz.f23.name == "runtime.NumGoroutine") = false := by kernel_rfl
theorem c24 : compFun Tryz.prog Tryz.f24 = some a24 := by kernel_rfl
theorem n24 : (Tryz.f24.name == "runtime.NumGoroutine") = false := by kernel_rfl
theorem c25 : compFun Tryz.prog Tryz.f25 = some a25 := by kernel_rfl
theorem n25 : (Tryz.f25.name == "runtime.NumGoroutine") = false := by kernel_rfl
theorem c26 : compFun Tryz.prog Tryz.f26 = some a26 := by kernel_rfl
theorem n26 : (Tryz.f26.name == "runtime.NumGoroutine") = false := by kernel_rfl
theorem c27 : compFun Tryz.prog Tryz.f27 = some a27 := by kernel_rfl
theorem n27 : (Tryz.f27.name == "runtime.NumGoroutine") = false := by kernel_rfl
theorem c28 : compFun Tryz.prog Tryz.f28 = some a28 := by kernel_rfl
theorem n28 : (Tryz.f28.name == "runtime.NumGoroutine") = false := by kernel_rfl
theorem c29 : compFun Tryz.prog Tryz.f29 = some a29 := by kernel_rfl
theorem n29 : (Tryz.f29.name == "runtime.NumGoroutine") = false := by kernel_rfl
theorem c30 : compFun Tryz.prog Tryz.f30 = some a30 := by kernel_rfl
theorem n30 : (Tryz.f30.name == "runtime.NumGoroutine") = false := by kernel_rfl
theorem c31 : compFun Tryz.prog Tryz.f31 = some a31 := by kernel_rfl
theorem n31 : (Tryz.f31.name == "runtime.NumGoroutine") = false := by kernel_rfl
theorem c32 : compFun Tryz.prog Tryz.f32 = some a32 := by kernel_rfl
theorem n32 : (Tryz.f32.name == "runtime.NumGoroutine") = false := by kernel_rfl
theorem c33 : compFun Tryz.prog Tryz.f33 = some a33 := by kernel_rfl
theorem n33 : (Tryz.f33.name == "runtime.NumGoroutine") = false := by kernel_rfl
theorem c34 : compFun Tryz.prog Tryz.f34 = some a34 := by kernel_rfl
theorem n34 : (Tryz.f34.name == "runtime.NumGoroutine") = false := by kernel_rfl
theorem c36 : compFun Tryz.prog Tryz.f36 = some a36 := by kernel_rfl
theorem n36 : (Tryz.f36.name == "runtime.NumGoroutine") = false := by kernel_rfl
theorem c37 : compFun Tryz.prog Tryz.f37 = some a37 := by kernel_rfl
theorem n37 : (Tryz.f37.name == "runtime.NumGoroutine") = false := by kernel_rfl
theorem c47 : compFun Tryz.prog Tryz.f47 = some a47 := by kernel_rfl
theorem n47 : (Tryz.f47.name == "runtime.NumGoroutine") = false := by kernel_rfl
theorem c50 : compFun Tryz.prog Tryz.f50 = some a50 := by kernel_rfl
theorem n50 : (Tryz.f50.name == "runtime.NumGoroutine") = false := by kernel_rfl
theorem c51 : compFun Tryz.prog Tryz.f51 = some a51 := by kernel_rfl
theorem n51 : (Tryz.f51.name == "runtime.NumGoroutine") = false := by kernel_rfl
theorem c52 : compFun Tryz.prog Tryz.f52 = some a52 := by kernel_rfl
theorem n52 : (Tryz.f52.name == "runtime.NumGoroutine") = false := by kernel_rfl
theorem c53 : compFun Tryz.prog Tryz.f53 = some a53 := by kernel_rfl
theorem n53 : (Tryz.f53.name == "runtime.NumGoroutine") = false := by kernel_rfl
theorem c54 : compFun Tryz.prog Tryz.f54 = some a54 := by kernel_rfl
theorem n54 : (Tryz.f54.name == "runtime.NumGoroutine") = false := by kernel_rfl
theorem c55 : compFun Tryz.prog Tryz.f55 = some a55 := by kernel_rfl
theorem n55 : (Tryz.f55.name == "runtime.NumGoroutine") = false := by kernel_rfl
theorem c56 : compFun Tryz.prog Tryz.f56 = some a56 := by kernel_rfl
theorem n56 : (Tryz.f56.name == "runtime.NumGoroutine") = false := by kernel_rfl
theorem c57 : compFun Tryz.prog Tryz.f57 = some a57 := by kernel_rfl
theorem n57 : (Tryz.f57.name == "runtime.NumGoroutine") = false := by kernel_rfl
theorem c58 : compFun Tryz.prog Tryz.f58 = some a58 := by kernel_rfl
theorem n58 : (Tryz.f58.name == "runtime.NumGoroutine") = false := by kernel_rfl
theorem c59 : compFun Tryz.prog Tryz.f59 = some a59 := by kernel_rfl
theorem n59 : (Tryz.f59.name == "runtime.NumGoroutine") = false := by kernel_rfl
theorem c60 : compFun Tryz.prog Tryz.f60 = some a60 := by kernel_rfl
theorem n60 : (Tryz.f60.name == "runtime.NumGoroutine") = false := by kernel_rfl
theorem c64 : compFun Tryz.prog Tryz.f64 = some a64 := by kernel_rfl
theorem n64 : (Tryz.f64.name == "runtime.NumGoroutine") = false := by kernel_rfl
theorem c66 : compFun Tryz.prog Tryz.f66 = some a66 := by kernel_rfl
theorem n66 : (Tryz.f66.name == "runtime.NumGoroutine") = false := by kernel_rfl
theorem c67 : compFun Tryz.prog Tryz.f67 = some a67 := by kernel_rfl
theorem n67 : (Tryz.f67.name == "runtime.NumGoroutine") = false := by kernel_rfl
theorem c68 : compFun Tryz.prog Tryz.f68 = some a68 := by kernel_rfl
theorem n68 : (Tryz.f68.name == "runtime.NumGoroutine") = false := by kernel_rfl
theorem c69 : compFun Tryz.prog Tryz.f69 = some a69 := by kernel_rfl
theorem n69 : (Tryz.f69.name == "runtime.NumGoroutine") = false := by kernel_rfl
theorem c70 : compFun Tryz.prog Tryz.f70 = some a70 := by kernel_rfl
theorem n70 : (Tryz.f70.name == "runtime.NumGoroutine") = false := by kernel_rfl
theorem c71 : compFun Tryz.prog Tryz.f71 = some a71 := by kernel_rfl
theorem n71 : (Tryz.f71.name == "runtime.NumGoroutine") = false := by kernel_rfl
theorem c72 : compFun Tryz.prog Tryz.f72 = some a72 := by kernel_rfl
theorem n72 : (Tryz.f72.name == "runtime.NumGoroutine") = false := by kernel_rfl
theorem c73 : compFun Tryz.prog Tryz.f73 = some a73 := by kernel_rfl
theorem n73 : (Tryz.f73.name == "runtime.NumGoroutine") = false := by kernel_rfl
theorem c74 : compFun Tryz.prog Tryz.f74 = some a74 := by kernel_rfl
theorem n74 : (Tryz.f74.name == "runtime.NumGoroutine") = false := by kernel_rfl
theorem c75 : compFun Tryz.prog Tryz.f75 = some a75 := by kernel_rfl
theorem n75 : (Tryz.f75.name == "runtime.NumGoroutine") = false := by kernel_rfl
theorem c78 : compFun Tryz.prog Tryz.f78 = some a78 := by kernel_rfl
theorem n78 : (Tryz.f78.name == "runtime.NumGoroutine") = false := by kernel_rfl
theorem c81 : compFun Tryz.prog Tryz.f81 = some a81 := by kernel_rfl
theorem n81 : (Tryz.f81.name == "runtime.NumGoroutine") = false := by kernel_rfl
theorem c82 : compFun Tryz.prog Tryz.f82 = some a82 := by kernel_rfl
theorem n82 : (Tryz.f82.name == "runtime.NumGoroutine") = false := by kernel_rfl
theorem c83 : compFun Tryz.prog Tryz.f83 = some a83 := by kernel_rfl
theorem n83 : (Tryz.f83.name == "runtime.NumGoroutine") = false := by kernel_rfl
theorem c85 : compFun Tryz.prog Tryz.f85 = some a85 := by kernel_rfl
theorem n85 : (Tryz.f85.name == "runtime.NumGoroutine") = false := by kernel_rfl
theorem c86 : compFun Tryz.prog Tryz.f86 = some a86 := by kernel_rfl
theorem n86 : (Tryz.f86.name == "runtime.NumGoroutine") = false := by kernel_rfl
theorem c87 : compFun Tryz.prog Tryz.f87 = some a87 := by kernel_rfl
theorem n87 : (Tryz.f87.name == "runtime.NumGoroutine") = false := by kernel_rfl
theorem c88 : compFun Tryz.prog Tryz.f88 = some a88 := by kernel_rfl
theorem n88 : (Tryz.f88.name == "runtime.NumGoroutine") = false := by kernel_rfl
theorem c89 : compFun Tryz.prog Tryz.f89 = some a89 := by kernel_rfl
theorem n89 : (Tryz.f89.name == "runtime.NumGoroutine") = false := by kernel_rfl
theorem c90 : compFun Tryz.prog Tryz.f90 = some a90 := by kernel_rfl
theorem n90 : (Tryz.f90.name == "runtime.NumGoroutine") = false := by kernel_rfl
theorem c91 : compFun Tryz.prog Tryz.f91 = some a91 := by kernel_rfl
theorem n91 : (Tryz.f91.name == "runtime.NumGoroutine") = false := by kernel_rfl
theorem c92 : compFun Tryz.prog Tryz.f92 = some a92 := by kernel_rfl
theorem n92 : (Tryz.f92.name == "runtime.NumGoroutine") = false := by kernel_rfl
theorem c93 : compFun Tryz.prog Tryz.f93 = some a93 := by kernel_rfl
theorem n93 : (Tryz.f93.name == "runtime.NumGoroutine") = false := by kernel_rfl
theorem c94 : compFun Tryz.prog Tryz.f94 = some a94 := by kernel_rfl
theorem n94 : (Tryz.f94.name == "runtime.NumGoroutine") = false := by kernel_rfl
theorem c95 : compFun Tryz.prog Tryz.f95 = some a95 := by kernel_rfl
theorem n95 : (Tryz.f95.name == "runtime.NumGoroutine") = false := by kernel_rfl
theorem c96 : compFun Tryz.prog Tryz.f96 = some a96 := by kernel_rfl
theorem n96 : (Tryz.f96.name == "runtime.NumGoroutine") = false := by kernel_rfl
theorem c97 : compFun Tryz.prog Tryz.f97 = some a97 := by kernel_rfl
theorem n97 : (Tryz.f97.name == "runtime.NumGoroutine") = false := by kernel_rfl
theorem c98 : compFun Tryz.prog Tryz.f98 = some a98 := by kernel_rfl
theorem n98 : (Tryz.f98.name == "runtime.NumGoroutine") = false := by kernel_rfl
theorem c99 : compFun Tryz.prog Tryz.f99 = some a99 := by kernel_rfl
theorem n99 : (Tryz.f99.name == "runtime.NumGoroutine") = false := by kernel_rfl
theorem c100 : compFun Tryz.prog Tryz.f100 = some a100 := by kernel_rfl
theorem n100 : (Tryz.f100.name == "runtime.NumGoroutine") = false := by kernel_rfl
theorem c102 : compFun Tryz.prog Tryz.f102 = some a102 := by kernel_rfl
theorem n102 : (Tryz.f102.name == "runtime.NumGoroutine") = false := by kernel_rfl
theorem c103 : compFun Tryz.prog Tryz.f103 = some a103 := by kernel_rfl
theorem n103 : (Tryz.f103.name == "runtime.NumGoroutine") = false := by kernel_rfl
theorem c106 : compFun Tryz.prog Tryz.f106 = some a106 := by kernel_rfl
theorem n106 : (Tryz.f106.name == "runtime.NumGoroutine") = false := by kernel_rfl
theorem c107 : compFun Tryz.prog Tryz.f107 = some a107 := by kernel_rfl
theorem n107 : (Tryz.f107.name == "runtime.NumGoroutine") = false := by kernel_rfl
theorem c109 : compFun Tryz.prog Tryz.f109 = some a109 := by kernel_rfl
theorem n109 : (Tryz.f109.name == "runtime.NumGoroutine") = false := by kernel_rfl
theorem c110 : compFun Tryz.prog Tryz.f110 = some a110 := by kernel_rfl
theorem n110 : (Tryz.f110.name == "runtime.NumGoroutine") = false := by kernel_rfl
theorem c111 : compFun Tryz.prog Tryz.f111 = some a111 := by kernel_rfl
theorem n111 : (Tryz.f111.name == "runtime.NumGoroutine") = false := by kernel_rfl
theorem c112 : compFun Tryz.prog Tryz.f112 = some a112 := by kernel_rfl
theorem n112 : (Tryz.f112.name == "runtime.NumGoroutine") = false := by kernel_rfl
theorem c113 : compFun Tryz.prog Tryz.f113 = some a113 := by kernel_rfl
theorem n113 : (Tryz.f113.name == "runtime.NumGoroutine") = false := by kernel_rfl
theorem c114 : compFun Tryz.prog Tryz.f114 = some a114 := by kernel_rfl
theorem n114 : (Tryz.f114.name == "runtime.NumGoroutine") = false := by kernel_rfl
theorem c116 : compFun Tryz.prog Tryz.f116 = some a116 := by kernel_rfl
theorem n116 : (Tryz.f116.name == "runtime.NumGoroutine") = false := by kernel_rfl
theorem c117 : compFun Tryz.prog Tryz.f117 = some a117 := by kernel_rfl
theorem n117 : (Tryz.f117.name == "runtime.NumGoroutine") = false := by kernel_rfl
theorem c121 : compFun Tryz.prog Tryz.f121 = some a121 := by kernel_rfl
theorem n121 : (Tryz.f121.name == "runtime.NumGoroutine") = false := by kernel_rfl
theorem c129 : compFun Tryz.prog Tryz.f129 = some a129 := by kernel_rfl
theorem n129 : (Tryz.f129.name == "runtime.NumGoroutine") = false := by kernel_rfl
theorem c133 : compFun Tryz.prog Tryz.f133 = some a133 := by kernel_rfl
theorem n133 : (Tryz.f133.name == "runtime.NumGoroutine") = false := by kernel_rfl
theorem c135 : compFun Tryz.prog Tryz.f135 = some a135 := by kernel_rfl
theorem n135 : (Tryz.f135.name == "runtime.NumGoroutine") = false := by kernel_rfl
theorem c139 : compFun Tryz.prog Tryz.f139 = some a139 := by kernel_rfl
theorem n139 : (Tryz.f139.name == "runtime.NumGoroutine") = false := by kernel_rfl
theorem c140 : compFun Tryz.prog Tryz.f140 = some a140 := by kernel_rfl
theorem n140 : (Tryz.f140.name == "runtime.NumGoroutine") = false := by kernel_rfl
theorem c145 : compFun Tryz.prog Tryz.f145 = some a145 := by kernel_rfl
theorem n145 : (Tryz.f145.name == "runtime.NumGoroutine") = false := by kernel_rfl
theorem c146 : compFun Tryz.prog Tryz.f146 = some a146 := by kernel_rfl
theorem n146 : (Tryz.f146.name == "runtime.NumGoroutine") = false := by kernel_rfl
theorem c147 : compFun Tryz.prog Tryz.f147 = some a147 := by kernel_rfl
theorem n147 : (Tryz.f147.name == "runtime.NumGoroutine") = false := by kernel_rfl
theorem c148 : compFun Tryz.prog Tryz.f148 = some a148 := by kernel_rfl
theorem n148 : (Tryz.f148.name == "runtime.NumGoroutine") = false := by kernel_rfl
theorem c149 : compFun Tryz.prog Tryz.f149 = some a149 := by kernel_rfl
theorem n149 : (Tryz.f149.name == "runtime.NumGoroutine") = false := by kernel_rfl
theorem c152 : compFun Tryz.prog Tryz.f152 = some a152 := by kernel_rfl
theorem n152 : (Tryz.f152.name == "runtime.NumGoroutine") = false := by kernel_rfl
theorem c153 : compFun Tryz.prog Tryz.f153 = some a153 := by kernel_rfl
theorem n153 : (Tryz.f153.name == "runtime.NumGoroutine") = false := by kernel_rfl
theorem c155 : compFun Tryz.prog Tryz.f155 = some a155 := by kernel_rfl
theorem n155 : (Tryz.f155.name == "runtime.NumGoroutine") = false := by kernel_rfl
theorem c156 : compFun Tryz.prog Tryz.f156 = some a156 := by kernel_rfl
theorem n156 : (Tryz.f156.name == "runtime.NumGoroutine") = false := by kernel_rfl
theorem c157 : compFun Tryz.prog Tryz.f157 = some a157 := by kernel_rfl
theorem n157 : (Tryz.f157.name == "runtime.NumGoroutine") = false := by kernel_rfl
theorem c158 : compFun Tryz.prog Tryz.f158 = some a158 := by kernel_rfl
theorem n158 : (Tryz.f158.name == "runtime.NumGoroutine") = false := by kernel_rfl
theorem c160 : compFun Tryz.prog Tryz.f160 = some a160 := by kernel_rfl
theorem n160 : (Tryz.f160.name == "runtime.NumGoroutine") = false := by kernel_rfl
theorem c161 : compFun Tryz.prog Tryz.f161 = some a161 := by kernel_rfl
theorem n161 : (Tryz.f161.name == "runtime.NumGoroutine") = false := by kernel_rfl
theorem c162 : compFun Tryz.prog Tryz.f162 = some a162 := by kernel_rfl
theorem n162 : (Tryz.f162.name == "runtime.NumGoroutine") = false := by kernel_rfl
theorem c163 : compFun Tryz.prog Tryz.f163 = some a163 := by kernel_rfl
theorem n163 : (Tryz.f163.name == "runtime.NumGoroutine") = false := by kernel_rfl
theorem c164 : compFun Tryz.prog Tryz.f164 = some a164 := by kernel_rfl
theorem n164 : (Tryz.f164.name == "runtime.NumGoroutine") = false := by kernel_rfl
theorem c165 : compFun Tryz.prog Tryz.f165 = some a165 := by kernel_rfl
theorem n165 : (Tryz.f165.name == "runtime.NumGoroutine") = false := by kernel_rfl
theorem c167 : compFun Tryz.prog Tryz.f167 = some a167 := by kernel_rfl
theorem n167 : (Tryz.f167.name == "runtime.NumGoroutine") = false := by kernel_rfl
theorem c168 : compFun Tryz.prog Tryz.f168 = some a168 := by kernel_rfl
theorem n168 : (Tryz.f168.name == "runtime.NumGoroutine") = false := by kernel_rfl
theorem c170 : compFun Tryz.prog Tryz.f170 = some a170 := by kernel_rfl
theorem n170 : (Tryz.f170.name == "runtime.NumGoroutine") = false := by kernel_rfl
theorem c173 : compFun Tryz.prog Tryz.f173 = some a173 := by kernel_rfl
theorem n173 : (Tryz.f173.name == "runtime.NumGoroutine") = false := by kernel_rfl
theorem c175 : compFun Tryz.prog Tryz.f175 = some a175 := by kernel_rfl
theorem n175 : (Tryz.f175.name == "runtime.NumGoroutine") = false := by kernel_rfl
theorem c178 : compFun Tryz.prog Tryz.f178 = some a178 := by kernel_rfl
theorem n178 : (Tryz.f178.name == "runtime.NumGoroutine") = false := by kernel_rfl
theorem c179 : compFun Tryz.prog Tryz.f179 = some a179 := by kernel_rfl
theorem n179 : (Tryz.f179.name == "runtime.NumGoroutine") = false := by kernel_rfl
theorem c180 : compFun Tryz.prog Tryz.f180 = some a180 := by kernel_rfl
theorem n180 : (Tryz.f180.name == "runtime.NumGoroutine") = false := by kernel_rfl
theorem c182 : compFun Tryz.prog Tryz.f182 = some a182 := by kernel_rfl
theorem n182 : (Tryz.f182.name == "runtime.NumGoroutine") = false := by kernel_rfl
theorem c186 : compFun Tryz.prog Tryz.f186 = some a186 := by kernel_rfl
theorem n186 : (Tryz.f186.name == "runtime.NumGoroutine") = false := by kernel_rfl
theorem c187 : compFun Tryz.prog Tryz.f187 = some a187 := by kernel_rfl
theorem n187 : (Tryz.f187.name == "runtime.NumGoroutine") = false := by kernel_rfl
theorem c192 : compFun Tryz.prog Tryz.f192 = some a192 := by kernel_rfl
theorem n192 : (Tryz.f192.name == "runtime.NumGoroutine") = false := by kernel_rfl
theorem c200 : compFun Tryz.prog Tryz.f200 = some a200 := by kernel_rfl
theorem n200 : (Tryz.f200.name == "runtime.NumGoroutine") = false := by kernel_rfl
theorem c201 : compFun Tryz.prog Tryz.f201 = some a201 := by kernel_rfl
theorem n201 : (Tryz.f201.name == "runtime.NumGoroutine") = false := by kernel_rfl
theorem c203 : compFun Tryz.prog Tryz.f203 = some a203 := by kernel_rfl
theorem n203 : (Tryz.f203.name == "runtime.NumGoroutine") = false := by kernel_rfl
theorem c207 : compFun Tryz.prog Tryz.f207 = some a207 := by kernel_rfl
theorem n207 : (Tryz.f207.name == "runtime.NumGoroutine") = false := by kernel_rfl
theorem c209 : compFun Tryz.prog Tryz.f209 = some a209 := by kernel_rfl
theorem n209 : (Tryz.f209.name == "runtime.NumGoroutine") = false := by kernel_rfl
theorem c210 : compFun Tryz.prog Tryz.f210 = some a210 := by kernel_rfl
theorem n210 : (Tryz.f210.name == "runtime.NumGoroutine") = false := by kernel_rfl
theorem c213 : compFun Tryz.prog Tryz.f213 = some a213 := by kernel_rfl
theorem n213 : (Tryz.f213.name == "runtime.NumGoroutine") = false := by kernel_rfl
theorem c214 : compFun Tryz.prog Tryz.f214 = some a214 := by kernel_rfl
theorem n214 : (Tryz.f214.name == "runtime.NumGoroutine") = false := by kernel_rfl
theorem c217 : compFun Tryz.prog Tryz.f217 = some a217 := by kernel_rfl
theorem n217 : (Tryz.f217.name == "runtime.NumGoroutine") = false := by kernel_rfl
theorem c218 : compFun Tryz.prog Tryz.f218 = some a218 := by kernel_rfl
theorem n218 : (Tryz.f218.name == "runtime.NumGoroutine") = false := by kernel_rfl
theorem c219 : compFun Tryz.prog Tryz.f219 = some a219 := by kernel_rfl
theorem n219 : (Tryz.f219.name == "runtime.NumGoroutine") = false := by kernel_rfl
theorem c223 : compFun Tryz.prog Tryz.f223 = some a223 := by kernel_rfl
theorem n223 : (Tryz.f223.name == "runtime.NumGoroutine") = false := by kernel_rfl
theorem c225 : compFun Tryz.prog Tryz.f225 = some a225 := by kernel_rfl
theorem n225 : (Tryz.f225.name == "runtime.NumGoroutine") = false := by kernel_rfl
theorem c226 : compFun Tryz.prog Tryz.f226 = some a226 := by kernel_rfl
theorem n226 : (Tryz.f226.name == "runtime.NumGoroutine") = false := by kernel_rfl
theorem c227 : compFun Tryz.prog Tryz.f227 = some a227 := by kernel_rfl
theorem n227 : (Tryz.f227.name == "runtime.NumGoroutine") = false := by kernel_rfl
theorem c231 : compFun Tryz.prog Tryz.f231 = some a231 := by kernel_rfl
theorem n231 : (Tryz.f231.name == "runtime.NumGoroutine") = false := by kernel_rfl
theorem c232 : compFun Tryz.prog Tryz.f232 = some a232 := by kernel_rfl
theorem n232 : (Tryz.f232.name == "runtime.NumGoroutine") = false := by kernel_rfl
theorem c233 : compFun Tryz.prog Tryz.f233 = some a233 := by kernel_rfl
theorem n233 : (Tryz.f233.name == "runtime.NumGoroutine") = false := by kernel_rfl
theorem c234 : compFun Tryz.prog Tryz.f234 = some a234 := by kernel_rfl
theorem n234 : (Tryz.f234.name == "runtime.NumGoroutine") = false := by kernel_rfl
theorem c235 : compFun Tryz.prog Tryz.f235 = some a235 := by kernel_rfl
theorem n235 : (Tryz.f235.name == "runtime.NumGoroutine") = false := by kernel_rfl
theorem c236 : compFun Tryz.prog Tryz.f236 = some a236 := by kernel_rfl
theorem n236 : (Tryz.f236.name == "runtime.NumGoroutine") = false := by kernel_rfl
theorem c239 : compFun Tryz.prog Tryz.f239 = some a239 := by kernel_rfl
theorem n239 : (Tryz.f239.name == "runtime.NumGoroutine") = false := by kernel_rfl
theorem c240 : compFun Tryz.prog Tryz.f240 = some a240 := by kernel_rfl
theorem n240 : (Tryz.f240.name == "runtime.NumGoroutine") = false := by kernel_rfl
theorem c242 : compFun Tryz.prog Tryz.f242 = some a242 := by kernel_rfl
theorem n242 : (Tryz.f242.name == "runtime.NumGoroutine") = false := by kernel_rfl
theorem c243 : compFun Tryz.prog Tryz.f243 = some a243 := by kernel_rfl
theorem n243 : (Tryz.f243.name == "runtime.NumGoroutine") = false := by kernel_rfl
theorem c245 : compFun Tryz.prog Tryz.f245 = some a245 := by kernel_rfl
theorem n245 : (Tryz.f245.name == "runtime.NumGoroutine") = false := by kernel_rfl
theorem c246 : compFun Tryz.prog Tryz.f246 = some a246 := by kernel_rfl
theorem n246 : (Tryz.f246.name == "runtime.NumGoroutine") = false := by kernel_rfl
theorem c247 : compFun Tryz.prog Tryz.f247 = some a247 := by kernel_rfl
theorem n247 : (Tryz.f247.name == "runtime.NumGoroutine") = false := by kernel_rfl
theorem c248 : compFun Tryz.prog Tryz.f248 = some a248 := by kernel_rfl
theorem n248 : (Tryz.f248.name == "runtime.NumGoroutine") = false := by kernel_rfl
theorem c249 : compFun Tryz.prog Tryz.f249 = some a249 := by kernel_rfl
theorem n249 : (Tryz.f249.name == "runtime.NumGoroutine") = false := by kernel_rfl
theorem c250 : compFun Tryz.prog Tryz.f250 = some a250 := by kernel_rfl
theorem n250 : (Tryz.f250.name == "runtime.NumGoroutine") = false := by kernel_rfl
theorem c251 : compFun Tryz.prog Tryz.f251 = some a251 := by kernel_rfl
theorem n251 : (Tryz.f251.name == "runtime.NumGoroutine") = false := by kernel_rfl
theorem c252 : compFun Tryz.prog Tryz.f252 = some a252 := by kernel_rfl
theorem n252 : (Tryz.f252.name == "runtime.NumGoroutine") = false := by kernel_rfl
theorem c253 : compFun Tryz.prog Tryz.f253 = some a253 := by kernel_rfl
theorem n253 : (Tryz.f253.name == "runtime.NumGoroutine") = false := by kernel_rfl
theorem c254 : compFun Tryz.prog Tryz.f254 = some a254 := by kernel_rfl
theorem n254 : (Tryz.f254.name == "runtime.NumGoroutine") = false := by kernel_rfl
theorem c255 : compFun Tryz.prog Tryz.f255 = some a255 := by kernel_rfl
theorem n255 : (Tryz.f255.name == "runtime.NumGoroutine") = false := by kernel_rfl
theorem c258 : compFun Tryz.prog Tryz.f258 = some a258 := by kernel_rfl
theorem n258 : (Tryz.f258.name == "runtime.NumGoroutine") = false := by kernel_rfl
theorem c273 : compFun Tryz.prog Tryz.f273 = some a273 := by kernel_rfl
theorem n273 : (Tryz.f273.name == "runtime.NumGoroutine") = false := by kernel_rfl
theorem c277 : compFun Tryz.prog Tryz.f277 = some a277 := by kernel_rfl
theorem n277 : (Tryz.f277.name == "runtime.NumGoroutine") = false := by kernel_rfl
theorem c280 : compFun Tryz.prog Tryz.f280 = some a280 := by kernel_rfl
theorem n280 : (Tryz.f280.name == "runtime.NumGoroutine") = false := by kernel_rfl
theorem c281 : compFun Tryz.prog Tryz.f281 = some a281 := by kernel_rfl
theorem n281 : (Tryz.f281.name == "runtime.NumGoroutine") = false := by kernel_rfl
theorem c282 : compFun Tryz.prog Tryz.f282 = some a282 := by kernel_rfl
theorem n282 : (Tryz.f282.name == "runtime.NumGoroutine") = false := by kernel_rfl
theorem c285 : compFun Tryz.prog Tryz.f285 = some a285 := by kernel_rfl
theorem n285 : (Tryz.f285.name == "runtime.NumGoroutine") = false := by kernel_rfl
theorem c293 : compFun Tryz.prog Tryz.f293 = some a293 := by kernel_rfl
theorem n293 : (Tryz.f293.name == "runtime.NumGoroutine") = false := by kernel_rfl
theorem c299 : compFun Tryz.prog Tryz.f299 = some a299 := by kernel_rfl
theorem n299 : (Tryz.f299.name == "runtime.NumGoroutine") = false := by kernel_rfl
theorem c300 : compFun Tryz.prog Tryz.f300 = some a300 := by kernel_rfl
theorem n300 : (Tryz.f300.name == "runtime.NumGoroutine") = false := by kernel_rfl
theorem c301 : compFun Tryz.prog Tryz.f301 = some a301 := by kernel_rfl
theorem n301 : (Tryz.f301.name == "runtime.NumGoroutine") = false := by kernel_rfl
theorem c302 : compFun Tryz.prog Tryz.f302 = some a302 := by kernel_rfl
theorem n302 : (Tryz.f302.name == "runtime.NumGoroutine") = false := by kernel_rfl
theorem c303 : compFun Tryz.prog Tryz.f303 = some a303 := by kernel_rfl
theorem n303 : (Tryz.f303.name == "runtime.NumGoroutine") = false := by kernel_rfl
theorem c304 : compFun Tryz.prog Tryz.f304 = some a304 := by kernel_rfl
theorem n304 : (Tryz.f304.name == "runtime.NumGoroutine") = false := by kernel_rfl
theorem c305 : compFun Tryz.prog Tryz.f305 = some a305 := by kernel_rfl
theorem n305 : (Tryz.f305.name == "runtime.NumGoroutine") = false := by kernel_rfl
theorem c306 : compFun Tryz.prog Tryz.f306 = some a306 := by kernel_rfl
theorem n306 : (Tryz.f306.name == "runtime.NumGoroutine") = false := by kernel_rfl
theorem c311 : compFun Tryz.prog Tryz.f311 = some a311 := by kernel_rfl
theorem n311 : (Tryz.f311.name == "runtime.NumGoroutine") = false := by kernel_rfl
theorem c318 : compFun Tryz.prog Tryz.f318 = some a318 := by kernel_rfl
theorem n318 : (Tryz.f318.name == "runtime.NumGoroutine") = false := by kernel_rfl
theorem c321 : compFun Tryz.prog Tryz.f321 = some a321 := by kernel_rfl
theorem n321 : (Tryz.f321.name == "runtime.NumGoroutine") = false := by kernel_rfl
theorem c330 : compFun Tryz.prog Tryz.f330 = some a330 := by kernel_rfl
theorem n330 : (Tryz.f330.name == "runtime.NumGoroutine") = false := by kernel_rfl
theorem c331 : compFun Tryz.prog Tryz.f331 = some a331 := by kernel_rfl
theorem n331 : (Tryz.f331.name == "runtime.NumGoroutine") = false := by kernel_rfl
theorem c333 : compFun Tryz.prog Tryz.f333 = some a333 := by kernel_rfl
theorem n333 : (Tryz.f333.name == "runtime.NumGoroutine") = false := by kernel_rfl
theorem c334 : compFun Tryz.prog Tryz.f334 = some a334 := by kernel_rfl
theorem n334 : (Tryz.f334.name == "runtime.NumGoroutine") = false := by kernel_rfl
theorem c335 : compFun Tryz.prog Tryz.f335 = some a335 := by kernel_rfl
theorem n335 : (Tryz.f335.name == "runtime.NumGoroutine") = false := by kernel_rfl
theorem c336 : compFun Tryz.prog Tryz.f336 = some a336 := by kernel_rfl
theorem n336 : (Tryz.f336.name == "runtime.NumGoroutine") = false := by kernel_rfl
theorem c337 : compFun Tryz.prog Tryz.f337 = some a337 := by kernel_rfl
theorem n337 : (Tryz.f337.name == "runtime.NumGoroutine") = false := by kernel_rfl
theorem c339 : compFun Tryz.prog Tryz.f339 = some a339 := by kernel_rfl
theorem n339 : (Tryz.f339.name == "runtime.NumGoroutine") = false := by kernel_rfl
theorem c342 : compFun Tryz.prog Tryz.f342 = some a342 := by kernel_rfl
theorem n342 : (Tryz.f342.name == "runtime.NumGoroutine") = false := by kernel_rfl
theorem c344 : compFun Tryz.prog Tryz.f344 = some a344 := by kernel_rfl
theorem n344 : (Tryz.f344.name == "runtime.NumGoroutine") = false := by kernel_rfl
theorem c351 : compFun Tryz.prog Tryz.f351 = some a351 := by kernel_rfl
theorem n351 : (Tryz.f351.name == "runtime.NumGoroutine") = false := by kernel_rfl
theorem c354 : compFun Tryz.prog Tryz.f354 = some a354 := by kernel_rfl
theorem n354 : (Tryz.f354.name == "runtime.NumGoroutine") = false := by kernel_rfl
theorem c357 : compFun Tryz.prog Tryz.f357 = some a357 := by kernel_rfl
theorem n357 : (Tryz.f357.name == "runtime.NumGoroutine") = false := by kernel_rfl
theorem c359 : compFun Tryz.prog Tryz.f359 = some a359 := by kernel_rfl
theorem n359 : (Tryz.f359.name == "runtime.NumGoroutine") = false := by kernel_rfl
theorem c360 : compFun Tryz.prog Tryz.f360 = some a360 := by kernel_rfl
theorem n360 : (Tryz.f360.name == "runtime.NumGoroutine") = false := by kernel_rfl
theorem c367 : compFun Tryz.prog Tryz.f367 = some a367 := by kernel_rfl
theorem n367 : (Tryz.f367.name == "runtime.NumGoroutine") = false := by kernel_rfl
theorem c369 : compFun Tryz.prog Tryz.f369 = some a369 := by kernel_rfl
theorem n369 : (Tryz.f369.name == "runtime.NumGoroutine") = false := by kernel_rfl
theorem c373 : compFun Tryz.prog Tryz.f373 = some a373 := by kernel_rfl
theorem n373 : (Tryz.f373.name == "runtime.NumGoroutine") = false := by kernel_rfl
def look : List (Nat × AFun) → Nat → Option AFun
  | [], _ => none
  | (k, a) :: r, f => match Nat.beq k f with | true => some a | false => look r f
def tab : List (Nat × AFun) := [(4, a4), (5, a5), (6, a6), (7, a7), (8, a8), (9, a9), (10, a10), (11, a11), (12, a12), (13, a13), (14, a14), (15, a15), (16, a16), (17, a17), (18, a18), (19, a19), (20, a20), (21, a21), (22, a22), (23, a23), (24, a24), (25, a25), (26, a26), (27, a27), (28, a28), (29, a29), (30, a30), (31, a31), (32, a32), (33, a33), (34, a34), (36, a36), (37, a37), (47, a47), (50, a50), (51, a51), (52, a52), (53, a53), (54, a54), (55, a55), (56, a56), (57, a57), (58, a58), (59, a59), (60, a60), (64, a64), (66, a66), (67, a67), (68, a68), (69, a69), (70, a70), (71, a71), (72, a72), (73, a73), (74, a74), (75, a75), (78, a78), (81, a81), (82, a82), (83, a83), (85, a85), (86, a86), (87, a87), (88, a88), (89, a89), (90, a90), (91, a91), (92, a92), (93, a93), (94, a94), (95, a95), (96, a96), (97, a97), (98, a98), (99, a99), (100, a100), (102, a102), (103, a103), (106, a106), (107, a107), (109, a109), (110, a110), (111, a111), (112, a112), (113, a113), (114, a114), (116, a116), (117, a117), (121, a121), (129, a129), (133, a133), (135, a135), (139, a139), (140, a140), (145, a145), (146, a146), (147, a147), (148, a148), (149, a149), (152, a152), (153, a153), (155, a155), (156, a156), (157, a157), (158, a158), (160, a160), (161, a161), (162, a162), (163, a163), (164, a164), (165, a165), (167, a167), (168, a168), (170, a170), (173, a173), (175, a175), (178, a178), (179, a179), (180, a180), (182, a182), (186, a186), (187, a187), (192, a192), (200, a200), (201, a201), (203, a203), (207, a207), (209, a209), (210, a210), (213, a213), (214, a214), (217, a217), (218, a218), (219, a219), (223, a223), (225, a225), (226, a226), (227, a227), (231, a231), (232, a232), (233, a233), (234, a234), (235, a235), (236, a236), (239, a239), (240, a240), (242, a242), (243, a243), (245, a245), (246, a246), (247, a247), (248, a248), (249, a249), (250, a250), (251, a251), (252, a252), (253, a253), (254, a254), (255, a255), (258, a258), (273, a273), (277, a277), (280, a280), (281, a281), (282, a282), (285, a285), (293, a293), (299, a299), (300, a300), (301, a301), (302, a302), (303, a303), (304, a304), (305, a305), (306, a306), (311, a311), (318, a318), (321, a321), (330, a330), (331, a331), (333, a333), (334, a334), (335, a335), (336, a336), (337, a337), (339, a339), (342, a342), (344, a344), (351, a351), (354, a354), (357, a357), (359, a359), (360, a360), (367, a367), (369, a369), (373, a373)]
def EntryOk (P : Program) (x : Nat × AFun) : Prop := ∃ fn, P.funcs[x.1]? = some fn ∧ compFun P fn = some x.2 ∧ (fn.name == "runtime.NumGoroutine") = false
theorem funs_of_all {P : Program} : ∀ {l : List (Nat × AFun)}, (∀ x ∈ l, EntryOk P x) → FunsOk P (look l)
  | [], _, f, a, e => by cases e
  | (k, b) :: r, h, f, a, e => by
    unfold look at e
    split at e
    · rename_i hk
      have : k = f := Nat.eq_of_beq_eq_true hk
      subst this
      cases e
      exact h _ (List.mem_cons_self ..)
    · exact funs_of_all (fun x hx => h x (List.mem_cons_of_mem _ hx)) f a e
theorem tl196 : ∀ x ∈ ([] : List (Nat × AFun)), EntryOk Tryz.prog x := fun x h => by cases h
def t195 : List (Nat × AFun) := (373, a373) :: []
theorem tl195 : ∀ x ∈ t195, EntryOk Tryz.prog x := List.forall_mem_cons.2 ⟨⟨_, Tryz.func373, c373, n373⟩, tl196⟩
def t194 : List (Nat × AFun) := (369, a369) :: t195
theorem tl194 : ∀ x ∈ t194, EntryOk Tryz.prog x := List.forall_mem_cons.2 ⟨⟨_, Tryz.func369, c369, n369⟩, tl195⟩
def t193 : List (Nat × AFun) := (367, a367) :: t194
theorem tl193 : ∀ x ∈ t193, EntryOk Tryz.prog x := List.forall_mem_cons.2 ⟨⟨_, Tryz.func367, c367, n367⟩, tl194⟩
def t192 : List (Nat × AFun) := (360, a360) :: t193
theorem tl192 : ∀ x ∈ t192, EntryOk Tryz.prog x := List.forall_mem_cons.2 ⟨⟨_, Tryz.func360, c360, n360⟩, tl193⟩
def t191 : List (Nat × AFun) := (359, a359) :: t192
theorem tl191 : ∀ x ∈ t191, EntryOk Tryz.prog x := List.forall_mem_cons.2 ⟨⟨_, Tryz.func359, c359, n359⟩, tl192⟩
def t190 : List (Nat × AFun) := (357, a357) :: t191
theorem tl190 : ∀ x ∈ t190, EntryOk Tryz.prog x := List.forall_mem_cons.2 ⟨⟨_, Tryz.func357, c357, n357⟩, tl191⟩
def t189 : List (Nat × AFun) := (354, a354) :: t190
theorem tl189 : ∀ x ∈ t189, EntryOk Tryz.prog x := List.forall_mem_cons.2 ⟨⟨_, Tryz.func354, c354, n354⟩, tl190⟩
def t188 : List (Nat × AFun) := (351, a351) :: t189
theorem tl188 : ∀ x ∈ t188, EntryOk Tryz.prog x := List.forall_mem_cons.2 ⟨⟨_, Tryz.func351, c351, n351⟩, tl189⟩
def t187 : List (Nat × AFun) := (344, a344) :: t188
theorem tl187 : ∀ x ∈ t187, EntryOk Tryz.prog x := List.forall_mem_cons.2 ⟨⟨_, Tryz.func344, c344, n344⟩, tl188⟩
def t186 : List (Nat × AFun) := (342, a342) :: t187
theorem tl186 : ∀ x ∈ t186, EntryOk Tryz.prog x := List.forall_mem_cons.2 ⟨⟨_, Tryz.func342, c342, n342⟩, tl187⟩
def t185 : List (Nat × AFun) := (339, a339) :: t186
theorem tl185 : ∀ x ∈ t185, EntryOk Tryz.prog x := List.forall_mem_cons.2 ⟨⟨_, Tryz.func339, c339, n339⟩, tl186⟩
def t184 : List (Nat × AFun) := (337, a337) :: t185
theorem tl184 : ∀ x ∈ t184, EntryOk Tryz.prog x := List.forall_mem_cons.2 ⟨⟨_, Tryz.func337, c337, n337⟩, tl185⟩
def t183 : List (Nat × AFun) := (336, a336) :: t184
theorem tl183 : ∀ x ∈ t183, EntryOk Tryz.prog x := List.forall_mem_cons.2 ⟨⟨_, Tryz.func336, c336, n336⟩, tl184⟩
def t182 : List (Nat × AFun) := (335, a335) :: t183
theorem tl182 : ∀ x ∈ t182, EntryOk Tryz.prog x := List.forall_mem_cons.2 ⟨⟨_, Tryz.func335, c335, n335⟩, tl183⟩
def t181 : List (Nat × AFun) := (334, a334) :: t182
theorem tl181 : ∀ x ∈ t181, EntryOk Tryz.prog x := List.forall_mem_cons.2 ⟨⟨_, Tryz.func334, c334, n334⟩, tl182⟩
def t180 : List (Nat × AFun) := (333, a333) :: t181
theorem tl180 : ∀ x ∈ t180, EntryOk Tryz.prog x := List.forall_mem_cons.2 ⟨⟨_, Tryz.func333, c333, n333⟩, tl181⟩
def t179 : List (Nat × AFun) := (331, a331) :: t180
theorem tl179 : ∀ x ∈ t179, EntryOk Tryz.prog x := List.forall_mem_cons.2 ⟨⟨_, Tryz.func331, c331, n331⟩, tl180⟩
def t178 : List (Nat × AFun) := (330, a330) :: t179
theorem tl178 : ∀ x ∈ t178, EntryOk Tryz.prog x := List.forall_mem_cons.2 ⟨⟨_, Tryz.func330, c330, n330⟩, tl179⟩
def t177 : List (Nat × AFun) := (321, a321) :: t178
theorem tl177 : ∀ x ∈ t177, EntryOk Tryz.prog x := List.forall_mem_cons.2 ⟨⟨_, Tryz.func321, c321, n321⟩, tl178⟩
def t176 : List (Nat × AFun) := (318, a318) :: t177
theorem tl176 : ∀ x ∈ t176, EntryOk Tryz.prog x := List.forall_mem_cons.2 ⟨⟨_, Tryz.func318, c318, n318⟩, tl177⟩
def t175 : List (Nat × AFun) := (311, a311) :: t176
theorem tl175 : ∀ x ∈ t175, EntryOk Tryz.prog x := List.forall_mem_cons.2 ⟨⟨_, Tryz.func311, c311, n311⟩, tl176⟩
def t174 : List (Nat × AFun) := (306, a306) :: t175
theorem tl174 : ∀ x ∈ t174, EntryOk Tryz.prog x := List.forall_mem_cons.2 ⟨⟨_, Tryz.func306, c306, n306⟩, tl175⟩
def t173 : List (Nat × AFun) := (305, a305) :: t174
theorem tl173 : ∀ x ∈ t173, EntryOk Tryz.prog x := List.forall_mem_cons.2 ⟨⟨_, Tryz.func305, c305, n305⟩, tl174⟩
def t172 : List (Nat × AFun) := (304, a304) :: t173
theorem tl172 : ∀ x ∈ t172, EntryOk Tryz.prog x := List.forall_mem_cons.2 ⟨⟨_, Tryz.func304, c304, n304⟩, tl173⟩
def t171 : List (Nat × AFun) := (303, a303) :: t172
theorem tl171 : ∀ x ∈ t171, EntryOk Tryz.prog x := List.forall_mem_cons.2 ⟨⟨_, Tryz.func303, c303, n303⟩, tl172⟩
def t170 : List (Nat × AFun) := (302, a302) :: t171
theorem tl170 : ∀ x ∈ t170, EntryOk Tryz.prog x := List.forall_mem_cons.2 ⟨⟨_, Tryz.func302, c302, n302⟩, tl171⟩
def t169 : List (Nat × AFun) := (301, a301) :: t170
theorem tl169 : ∀ x ∈ t169, EntryOk Tryz.prog x := List.forall_mem_cons.2 ⟨⟨_, Tryz.func301, c301, n301⟩, tl170⟩
def t168 : List (Nat × AFun) := (300, a300) :: t169
theorem tl168 : ∀ x ∈ t168, EntryOk Tryz.prog x := List.forall_mem_cons.2 ⟨⟨_, Tryz.func300, c300, n300⟩, tl169⟩
def t167 : List (Nat × AFun) := (299, a299) :: t168
theorem tl167 : ∀ x ∈ t167, EntryOk Tryz.prog x := List.forall_mem_cons.2 ⟨⟨_, Tryz.func299, c299, n299⟩, tl168⟩
def t166 : List (Nat × AFun) := (293, a293) :: t167
theorem tl166 : ∀ x ∈ t166, EntryOk Tryz.prog x := List.forall_mem_cons.2 ⟨⟨_, Tryz.func293, c293, n293⟩, tl167⟩
def t165 : List (Nat × AFun) := (285, a285) :: t166
theorem tl165 : ∀ x ∈ t165, EntryOk Tryz.prog x := List.forall_mem_cons.2 ⟨⟨_, Tryz.func285, c285, n285⟩, tl166⟩
def t164 : List (Nat × AFun) := (282, a282) :: t165
theorem tl164 : ∀ x ∈ t164, EntryOk Tryz.prog x := List.forall_mem_cons.2 ⟨⟨_, Tryz.func282, c282, n282⟩, tl165⟩
def t163 : List (Nat × AFun) := (281, a281) :: t164
theorem tl163 : ∀ x ∈ t163, EntryOk Tryz.prog x := List.forall_mem_cons.2 ⟨⟨_, Tryz.func281, c281, n281⟩, tl164⟩
def t162 : List (Nat × AFun) := (280, a280) :: t163
theorem tl162 : ∀ x ∈ t162, EntryOk Tryz.prog x := List.forall_mem_cons.2 ⟨⟨_, Tryz.func280, c280, n280⟩, tl163⟩
def t161 : List (Nat × AFun) := (277, a277) :: t162
theorem tl161 : ∀ x ∈ t161, EntryOk Tryz.prog x := List.forall_mem_cons.2 ⟨⟨_, Tryz.func277, c277, n277⟩, tl162⟩
def t160 : List (Nat × AFun) := (273, a273) :: t161
theorem tl160 : ∀ x ∈ t160, EntryOk Tryz.prog x := List.forall_mem_cons.2 ⟨⟨_, Tryz.func273, c273, n273⟩, tl161⟩
def t159 : List (Nat × AFun) := (258, a258) :: t160
theorem tl159 : ∀ x ∈ t159, EntryOk Tryz.prog x := List.forall_mem_cons.2 ⟨⟨_, Tryz.func258, c258, n258⟩, tl160⟩
def t158 : List (Nat × AFun) := (255, a255) :: t159
theorem tl158 : ∀ x ∈ t158, EntryOk Tryz.prog x := List.forall_mem_cons.2 ⟨⟨_, Tryz.func255, c255, n255⟩, tl159⟩
def t157 : List (Nat × AFun) := (254, a254) :: t158
theorem tl157 : ∀ x ∈ t157, EntryOk Tryz.prog x := List.forall_mem_cons.2 ⟨⟨_, Tryz.func254, c254, n254⟩, tl158⟩
def t156 : List (Nat × AFun) := (253, a253) :: t157
theorem tl156 : ∀ x ∈ t156, EntryOk Tryz.prog x := List.forall_mem_cons.2 ⟨⟨_, Tryz.func253, c253, n253⟩, tl157⟩
def t155 : List (Nat × AFun) := (252, a252) :: t156
theorem tl155 : ∀ x ∈ t155, EntryOk Tryz.prog x := List.forall_mem_cons.2 ⟨⟨_, Tryz.func252, c252, n252⟩, tl156⟩
def t154 : List (Nat × AFun) := (251, a251) :: t155
theorem tl154 : ∀ x ∈ t154, EntryOk Tryz.prog x := List.forall_mem_cons.2 ⟨⟨_, Tryz.func251, c251, n251⟩, tl155⟩
def t153 : List (Nat × AFun) := (250, a250) :: t154
theorem tl153 : ∀ x ∈ t153, EntryOk Tryz.prog x := List.forall_mem_cons.2 ⟨⟨_, Tryz.func250, c250, n250⟩, tl154⟩
def t152 : List (Nat × AFun) := (249, a249) :: t153
theorem tl152 : ∀ x ∈ t152, EntryOk Tryz.prog x := List.forall_mem_cons.2 ⟨⟨_, Tryz.func249, c249, n249⟩, tl153⟩
def t151 : List (Nat × AFun) := (248, a248) :: t152
theorem tl151 : ∀ x ∈ t151, EntryOk Tryz.prog x := List.forall_mem_cons.2 ⟨⟨_, Tryz.func248, c248, n248⟩, tl152⟩
def t150 : List (Nat × AFun) := (247, a247) :: t151
theorem tl150 : ∀ x ∈ t150, EntryOk Tryz.prog x := List.forall_mem_cons.2 ⟨⟨_, Tryz.func247, c247, n247⟩, tl151⟩
def t149 : List (Nat × AFun) := (246, a246) :: t150
theorem tl149 : ∀ x ∈ t149, EntryOk Tryz.prog x := List.forall_mem_cons.2 ⟨⟨_, Tryz.func246, c246, n246⟩, tl150⟩
def t148 : List (Nat × AFun) := (245, a245) :: t149
theorem tl148 : ∀ x ∈ t148, EntryOk Tryz.prog x := List.forall_mem_cons.2 ⟨⟨_, Tryz.func245, c245, n245⟩, tl149⟩
def t147 : List (Nat × AFun) := (243, a243) :: t148
theorem tl147 : ∀ x ∈ t147, EntryOk Tryz.prog x := List.forall_mem_cons.2 ⟨⟨_, Tryz.func243, c243, n243⟩, tl148⟩
def t146 : List (Nat × AFun) := (242, a242) :: t147
theorem tl146 : ∀ x ∈ t146, EntryOk Tryz.prog x := List.forall_mem_cons.2 ⟨⟨_, Tryz.func242, c242, n242⟩, tl147⟩
def t145 : List (Nat × AFun) := (240, a240) :: t146
theorem tl145 : ∀ x ∈ t145, EntryOk Tryz.prog x := List.forall_mem_cons.2 ⟨⟨_, Tryz.func240, c240, n240⟩, tl146⟩
def t144 : List (Nat × AFun) := (239, a239) :: t145
theorem tl144 : ∀ x ∈ t144, EntryOk Tryz.prog x := List.forall_mem_cons.2 ⟨⟨_, Tryz.func239, c239, n239⟩, tl145⟩
def t143 : List (Nat × AFun) := (236, a236) :: t144
theorem tl143 : ∀ x ∈ t143, EntryOk Tryz.prog x := List.forall_mem_cons.2 ⟨⟨_, Tryz.func236, c236, n236⟩, tl144⟩
def t142 : List (Nat × AFun) := (235, a235) :: t143
theorem tl142 : ∀ x ∈ t142, EntryOk Tryz.prog x := List.forall_mem_cons.2 ⟨⟨_, Tryz.func235, c235, n235⟩, tl143⟩
def t141 : List (Nat × AFun) := (234, a234) :: t142
theorem tl141 : ∀ x ∈ t141, EntryOk Tryz.prog x := List.forall_mem_cons.2 ⟨⟨_, Tryz.func234, c234, n234⟩, tl142⟩
def t140 : List (Nat × AFun) := (233, a233) :: t141
theorem tl140 : ∀ x ∈ t140, EntryOk Tryz.prog x := List.forall_mem_cons.2 ⟨⟨_, Tryz.func233, c233, n233⟩, tl141⟩
def t139 : List (Nat × AFun) := (232, a232) :: t140
theorem tl139 : ∀ x ∈ t139, EntryOk Tryz.prog x := List.forall_mem_cons.2 ⟨⟨_, Tryz.func232, c232, n232⟩, tl140⟩
def t138 : List (Nat × AFun) := (231, a231) :: t139
theorem tl138 : ∀ x ∈ t138, EntryOk Tryz.prog x := List.forall_mem_cons.2 ⟨⟨_, Tryz.func231, c231, n231⟩, tl139⟩
def t137 : List (Nat × AFun) := (227, a227) :: t138
theorem tl137 : ∀ x ∈ t137, EntryOk Tryz.prog x := List.forall_mem_cons.2 ⟨⟨_, Tryz.func227, c227, n227⟩, tl138⟩
def t136 : List (Nat × AFun) := (226, a226) :: t137
theorem tl136 : ∀ x ∈ t136, EntryOk Tryz.prog x := List.forall_mem_cons.2 ⟨⟨_, Tryz.func226, c226, n226⟩, tl137⟩
def t135 : List (Nat × AFun) := (225, a225) :: t136
theorem tl135 : ∀ x ∈ t135, EntryOk Tryz.prog x := List.forall_mem_cons.2 ⟨⟨_, Tryz.func225, c225, n225⟩, tl136⟩
def t134 : List (Nat × AFun) := (223, a223) :: t135
theorem tl134 : ∀ x ∈ t134, EntryOk Tryz.prog x := List.forall_mem_cons.2 ⟨⟨_, Tryz.func223, c223, n223⟩, tl135⟩
def t133 : List (Nat × AFun) := (219, a219) :: t134
theorem tl133 : ∀ x ∈ t133, EntryOk Tryz.prog x := List.forall_mem_cons.2 ⟨⟨_, Tryz.func219, c219, n219⟩, tl134⟩
def t132 : List (Nat × AFun) := (218, a218) :: t133
theorem tl132 : ∀ x ∈ t132, EntryOk Tryz.prog x := List.forall_mem_cons.2 ⟨⟨_, Tryz.func218, c218, n218⟩, tl133⟩
def t131 : List (Nat × AFun) := (217, a217) :: t132
theorem tl131 : ∀ x ∈ t131, EntryOk Tryz.prog x := List.forall_mem_cons.2 ⟨⟨_, Tryz.func217, c217, n217⟩, tl132⟩
def t130 : List (Nat × AFun) := (214, a214) :: t131
theorem tl130 : ∀ x ∈ t130, EntryOk Tryz.prog x := List.forall_mem_cons.2 ⟨⟨_, Tryz.func214, c214, n214⟩, tl131⟩
def t129 : List (Nat × AFun) := (213, a213) :: t130
theorem tl129 : ∀ x ∈ t129, EntryOk Tryz.prog x := List.forall_mem_cons.2 ⟨⟨_, Tryz.func213, c213, n213⟩, tl130⟩
def t128 : List (Nat × AFun) := (210, a210) :: t129
theorem tl128 : ∀ x ∈ t128, EntryOk Tryz.prog x := List.forall_mem_cons.2 ⟨⟨_, Tryz.func210, c210, n210⟩, tl129⟩
def t127 : List (Nat × AFun) := (209, a209) :: t128
theorem tl127 : ∀ x ∈ t127, EntryOk Tryz.prog x := List.forall_mem_cons.2 ⟨⟨_, Tryz.func209, c209, n209⟩, tl128⟩
def t126 : List (Nat × AFun) := (207, a207) :: t127
theorem tl126 : ∀ x ∈ t126, EntryOk Tryz.prog x := List.forall_mem_cons.2 ⟨⟨_, Tryz.func207, c207, n207⟩, tl127⟩
def t125 : List (Nat × AFun) := (203, a203) :: t126
theorem tl125 : ∀ x ∈ t125, EntryOk Tryz.prog x := List.forall_mem_cons.2 ⟨⟨_, Tryz.func203, c203, n203⟩, tl126⟩
def t124 : List (Nat × AFun) := (201, a201) :: t125
theorem tl124 : ∀ x ∈ t124, EntryOk Tryz.prog x := List.forall_mem_cons.2 ⟨⟨_, Tryz.func201, c201, n201⟩, tl125⟩
def t123 : List (Nat × AFun) := (200, a200) :: t124
theorem tl123 : ∀ x ∈ t123, EntryOk Tryz.prog x := List.forall_mem_cons.2 ⟨⟨_, Tryz.func200, c200, n200⟩, tl124⟩
def t122 : List (Nat × AFun) := (192, a192) :: t123
theorem tl122 : ∀ x ∈ t122, EntryOk Tryz.prog x := List.forall_mem_cons.2 ⟨⟨_, Tryz.func192, c192, n192⟩, tl123⟩
def t121 : List (Nat × AFun) := (187, a187) :: t122
theorem tl121 : ∀ x ∈ t121, EntryOk Tryz.prog x := List.forall_mem_cons.2 ⟨⟨_, Tryz.func187, c187, n187⟩, tl122⟩
def t120 : List (Nat × AFun) := (186, a186) :: t121
theorem tl120 : ∀ x ∈ t120, EntryOk Tryz.prog x := List.forall_mem_cons.2 ⟨⟨_, Tryz.func186, c186, n186⟩, tl121⟩
def t119 : List (Nat × AFun) := (182, a182) :: t120
theorem tl119 : ∀ x ∈ t119, EntryOk Tryz.prog x := List.forall_mem_cons.2 ⟨⟨_, Tryz.func182, c182, n182⟩, tl120⟩
def t118 : List (Nat × AFun) := (180, a180) :: t119
theorem tl118 : ∀ x ∈ t118, EntryOk Tryz.prog x := List.forall_mem_cons.2 ⟨⟨_, Tryz.func180, c180, n180⟩, tl119⟩
def t117 : List (Nat × AFun) := (179, a179) :: t118
theorem tl117 : ∀ x ∈ t117, EntryOk Tryz.prog x := List.forall_mem_cons.2 ⟨⟨_, Tryz.func179, c179, n179⟩, tl118⟩
def t116 : List (Nat × AFun) := (178, a178) :: t117
theorem tl116 : ∀ x ∈ t116, EntryOk Tryz.prog x := List.forall_mem_cons.2 ⟨⟨_, Tryz.func178, c178, n178⟩, tl117⟩
def t115 : List (Nat × AFun) := (175, a175) :: t116
theorem tl115 : ∀ x ∈ t115, EntryOk Tryz.prog x := List.forall_mem_cons.2 ⟨⟨_, Tryz.func175, c175, n175⟩, tl116⟩
def t114 : List (Nat × AFun) := (173, a173) :: t115
theorem tl114 : ∀ x ∈ t114, EntryOk Tryz.prog x := List.forall_mem_cons.2 ⟨⟨_, Tryz.func173, c173, n173⟩, tl115⟩
def t113 : List (Nat × AFun) := (170, a170) :: t114
theorem tl113 : ∀ x ∈ t113, EntryOk Tryz.prog x := List.forall_mem_cons.2 ⟨⟨_, Tryz.func170, c170, n170⟩, tl114⟩
def t112 : List (Nat × AFun) := (168, a168) :: t113
theorem tl112 : ∀ x ∈ t112, EntryOk Tryz.prog x := List.forall_mem_cons.2 ⟨⟨_, Tryz.func168, c168, n168⟩, tl113⟩
def t111 : List (Nat × AFun) := (167, a167) :: t112
theorem tl111 : ∀ x ∈ t111, EntryOk Tryz.prog x := List.forall_mem_cons.2 ⟨⟨_, Tryz.func167, c167, n167⟩, tl112⟩
def t110 : List (Nat × AFun) := (165, a165) :: t111
theorem tl110 : ∀ x ∈ t110, EntryOk Tryz.prog x := List.forall_mem_cons.2 ⟨⟨_, Tryz.func165, c165, n165⟩, tl111⟩
def t109 : List (Nat × AFun) := (164, a164) :: t110
theorem tl109 : ∀ x ∈ t109, EntryOk Tryz.prog x := List.forall_mem_cons.2 ⟨⟨_, Tryz.func164, c164, n164⟩, tl110⟩
def t108 : List (Nat × AFun) := (163, a163) :: t109
theorem tl108 : ∀ x ∈ t108, EntryOk Tryz.prog x := List.forall_mem_cons.2 ⟨⟨_, Tryz.func163, c163, n163⟩, tl109⟩
def t107 : List (Nat × AFun) := (162, a162) :: t108
theorem tl107 : ∀ x ∈ t107, EntryOk Tryz.prog x := List.forall_mem_cons.2 ⟨⟨_, Tryz.func162, c162, n162⟩, tl108⟩
def t106 : List (Nat × AFun) := (161, a161) :: t107
theorem tl106 : ∀ x ∈ t106, EntryOk Tryz.prog x := List.forall_mem_cons.2 ⟨⟨_, Tryz.func161, c161, n161⟩, tl107⟩
def t105 : List (Nat × AFun) := (160, a160) :: t106
theorem tl105 : ∀ x ∈ t105, EntryOk Tryz.prog x := List.forall_mem_cons.2 ⟨⟨_, Tryz.func160, c160, n160⟩, tl106⟩
def t104 : List (Nat × AFun) := (158, a158) :: t105
theorem tl104 : ∀ x ∈ t104, EntryOk Tryz.prog x := List.forall_mem_cons.2 ⟨⟨_, Tryz.func158, c158, n158⟩, tl105⟩
def t103 : List (Nat × AFun) := (157, a157) :: t104
theorem tl103 : ∀ x ∈ t103, EntryOk Tryz.prog x := List.forall_mem_cons.2 ⟨⟨_, Tryz.func157, c157, n157⟩, tl104⟩
def t102 : List (Nat × AFun) := (156, a156) :: t103
theorem tl102 : ∀ x ∈ t102, EntryOk Tryz.prog x := List.forall_mem_cons.2 ⟨⟨_, Tryz.func156, c156, n156⟩, tl103⟩
def t101 : List (Nat × AFun) := (155, a155) :: t102
theorem tl101 : ∀ x ∈ t101, EntryOk Tryz.prog x := List.forall_mem_cons.2 ⟨⟨_, Tryz.func155, c155, n155⟩, tl102⟩
def t100 : List (Nat × AFun) := (153, a153) :: t101
theorem tl100 : ∀ x ∈ t100, EntryOk Tryz.prog x := List.forall_mem_cons.2 ⟨⟨_, Tryz.func153, c153, n153⟩, tl101⟩
def t99 : List (Nat × AFun) := (152, a152) :: t100
theorem tl99 : ∀ x ∈ t99, EntryOk Tryz.prog x := List.forall_mem_cons.2 ⟨⟨_, Tryz.func152, c152, n152⟩, tl100⟩
def t98 : List (Nat × AFun) := (149, a149) :: t99
theorem tl98 : ∀ x ∈ t98, EntryOk Tryz.prog x := List.forall_mem_cons.2 ⟨⟨_, Tryz.func149, c149, n149⟩, tl99⟩
def t97 : List (Nat × AFun) := (148, a148) :: t98
theorem tl97 : ∀ x ∈ t97, EntryOk Tryz.prog x := List.forall_mem_cons.2 ⟨⟨_, Tryz.func148, c148, n148⟩, tl98⟩
def t96 : List (Nat × AFun) := (147, a147) :: t97
theorem tl96 : ∀ x ∈ t96, EntryOk Tryz.prog x := List.forall_mem_cons.2 ⟨⟨_, Tryz.func147, c147, n147⟩, tl97⟩
def t95 : List (Nat × AFun) := (146, a146) :: t96
theorem tl95 : ∀ x ∈ t95, EntryOk Tryz.prog x := List.forall_mem_cons.2 ⟨⟨_, Tryz.func146, c146, n146⟩, tl96⟩
def t94 : List (Nat × AFun) := (145, a145) :: t95
theorem tl94 : ∀ x ∈ t94, EntryOk Tryz.prog x := List.forall_mem_cons.2 ⟨⟨_, Tryz.func145, c145, n145⟩, tl95⟩
def t93 : List (Nat × AFun) := (140, a140) :: t94
theorem tl93 : ∀ x ∈ t93, EntryOk Tryz.prog x := List.forall_mem_cons.2 ⟨⟨_, Tryz.func140, c140, n140⟩, tl94⟩
def t92 : List (Nat × AFun) := (139, a139) :: t93
theorem tl92 : ∀ x ∈ t92, EntryOk Tryz.prog x := List.forall_mem_cons.2 ⟨⟨_, Tryz.func139, c139, n139⟩, tl93⟩
def t91 : List (Nat × AFun) := (135, a135) :: t92
theorem tl91 : ∀ x ∈ t91, EntryOk Tryz.prog x := List.forall_mem_cons.2 ⟨⟨_, Tryz.func135, c135, n135⟩, tl92⟩
def t90 : List (Nat × AFun) := (133, a133) :: t91
theorem tl90 : ∀ x ∈ t90, EntryOk Tryz.prog x := List.forall_mem_cons.2 ⟨⟨_, Tryz.func133, c133, n133⟩, tl91⟩
def t89 : List (Nat × AFun) := (129, a129) :: t90
theorem tl89 : ∀ x ∈ t89, EntryOk Tryz.prog x := List.forall_mem_cons.2 ⟨⟨_, Tryz.func129, c129, n129⟩, tl90⟩
def t88 : List (Nat × AFun) := (121, a121) :: t89
theorem tl88 : ∀ x ∈ t88, EntryOk Tryz.prog x := List.forall_mem_cons.2 ⟨⟨_, Tryz.func121, c121, n121⟩, tl89⟩
def t87 : List (Nat × AFun) := (117, a117) :: t88
theorem tl87 : ∀ x ∈ t87, EntryOk Tryz.prog x := List.forall_mem_cons.2 ⟨⟨_, Tryz.func117, c117, n117⟩, tl88⟩
def t86 : List (Nat × AFun) := (116, a116) :: t87
theorem tl86 : ∀ x ∈ t86, EntryOk Tryz.prog x := List.forall_mem_cons.2 ⟨⟨_, Tryz.func116, c116, n116⟩, tl87⟩
def t85 : List (Nat × AFun) := (114, a114) :: t86
theorem tl85 : ∀ x ∈ t85, EntryOk Tryz.prog x := List.forall_mem_cons.2 ⟨⟨_, Tryz.func114, c114, n114⟩, tl86⟩
def t84 : List (Nat × AFun) := (113, a113) :: t85
theorem tl84 : ∀ x ∈ t84, EntryOk Tryz.prog x := List.forall_mem_cons.2 ⟨⟨_, Tryz.func113, c113, n113⟩, tl85⟩
def t83 : List (Nat × AFun) := (112, a112) :: t84
theorem tl83 : ∀ x ∈ t83, EntryOk Tryz.prog x := List.forall_mem_cons.2 ⟨⟨_, Tryz.func112, c112, n112⟩, tl84⟩
def t82 : List (Nat × AFun) := (111, a111) :: t83
theorem tl82 : ∀ x ∈ t82, EntryOk Tryz.prog x := List.forall_mem_cons.2 ⟨⟨_, Tryz.func111, c111, n111⟩, tl83⟩
def t81 : List (Nat × AFun) := (110, a110) :: t82
theorem tl81 : ∀ x ∈ t81, EntryOk Tryz.prog x := List.forall_mem_cons.2 ⟨⟨_, Tryz.func110, c110, n110⟩, tl82⟩
def t80 : List (Nat × AFun) := (109, a109) :: t81
theorem tl80 : ∀ x ∈ t80, EntryOk Tryz.prog x := List.forall_mem_cons.2 ⟨⟨_, Tryz.func109, c109, n109⟩, tl81⟩
def t79 : List (Nat × AFun) := (107, a107) :: t80
theorem tl79 : ∀ x ∈ t79, EntryOk Tryz.prog x := List.forall_mem_cons.2 ⟨⟨_, Tryz.func107, c107, n107⟩, tl80⟩
def t78 : List (Nat × AFun) := (106, a106) :: t79
theorem tl78 : ∀ x ∈ t78, EntryOk Tryz.prog x := List.forall_mem_cons.2 ⟨⟨_, Tryz.func106, c106, n106⟩, tl79⟩
def t77 : List (Nat × AFun) := (103, a103) :: t78
theorem tl77 : ∀ x ∈ t77, EntryOk Tryz.prog x := List.forall_mem_cons.2 ⟨⟨_, Tryz.func103, c103, n103⟩, tl78⟩
def t76 : List (Nat × AFun) := (102, a102) :: t77
theorem tl76 : ∀ x ∈ t76, EntryOk Tryz.prog x := List.forall_mem_cons.2 ⟨⟨_, Tryz.func102, c102, n102⟩, tl77⟩
def t75 : List (Nat × AFun) := (100, a100) :: t76
theorem tl75 : ∀ x ∈ t75, EntryOk Tryz.prog x := List.forall_mem_cons.2 ⟨⟨_, Tryz.func100, c100, n100⟩, tl76⟩
def t74 : List (Nat × AFun) := (99, a99) :: t75
theorem tl74 : ∀ x ∈ t74, EntryOk Tryz.prog x := List.forall_mem_cons.2 ⟨⟨_, Tryz.func99, c99, n99⟩, tl75⟩
def t73 : List (Nat × AFun) := (98, a98) :: t74
theorem tl73 : ∀ x ∈ t73, EntryOk Tryz.prog x := List.forall_mem_cons.2 ⟨⟨_, Tryz.func98, c98, n98⟩, tl74⟩
def t72 : List (Nat × AFun) := (97, a97) :: t73
theorem tl72 : ∀ x ∈ t72, EntryOk Tryz.prog x := List.forall_mem_cons.2 ⟨⟨_, Tryz.func97, c97, n97⟩, tl73⟩
def t71 : List (Nat × AFun) := (96, a96) :: t72
theorem tl71 : ∀ x ∈ t71, EntryOk Tryz.prog x := List.forall_mem_cons.2 ⟨⟨_, Tryz.func96, c96, n96⟩, tl72⟩
def t70 : List (Nat × AFun) := (95, a95) :: t71
theorem tl70 : ∀ x ∈ t70, EntryOk Tryz.prog x := List.forall_mem_cons.2 ⟨⟨_, Tryz.func95, c95, n95⟩, tl71⟩
def t69 : List (Nat × AFun) := (94, a94) :: t70
theorem tl69 : ∀ x ∈ t69, EntryOk Tryz.prog x := List.forall_mem_cons.2 ⟨⟨_, Tryz.func94, c94, n94⟩, tl70⟩
def t68 : List (Nat × AFun) := (93, a93) :: t69
theorem tl68 : ∀ x ∈ t68, EntryOk Tryz.prog x := List.forall_mem_cons.2 ⟨⟨_, Tryz.func93, c93, n93⟩, tl69⟩
def t67 : List (Nat × AFun) := (92, a92) :: t68
theorem tl67 : ∀ x ∈ t67, EntryOk Tryz.prog x := List.forall_mem_cons.2 ⟨⟨_, Tryz.func92, c92, n92⟩, tl68⟩
def t66 : List (Nat × AFun) := (91, a91) :: t67
theorem tl66 : ∀ x ∈ t66, EntryOk Tryz.prog x := List.forall_mem_cons.2 ⟨⟨_, Tryz.func91, c91, n91⟩, tl67⟩
def t65 : List (Nat × AFun) := (90, a90) :: t66
theorem tl65 : ∀ x ∈ t65, EntryOk Tryz.prog x := List.forall_mem_cons.2 ⟨⟨_, Tryz.func90, c90, n90⟩, tl66⟩
def t64 : List (Nat × AFun) := (89, a89) :: t65
theorem tl64 : ∀ x ∈ t64, EntryOk Tryz.prog x := List.forall_mem_cons.2 ⟨⟨_, Tryz.func89, c89, n89⟩, tl65⟩
def t63 : List (Nat × AFun) := (88, a88) :: t64
theorem tl63 : ∀ x ∈ t63, EntryOk Tryz.prog x := List.forall_mem_cons.2 ⟨⟨_, Tryz.func88, c88, n88⟩, tl64⟩
def t62 : List (Nat × AFun) := (87, a87) :: t63
theorem tl62 : ∀ x ∈ t62, EntryOk Tryz.prog x := List.forall_mem_cons.2 ⟨⟨_, Tryz.func87, c87, n87⟩, tl63⟩
def t61 : List (Nat × AFun) := (86, a86) :: t62
theorem tl61 : ∀ x ∈ t61, EntryOk Tryz.prog x := List.forall_mem_cons.2 ⟨⟨_, Tryz.func86, c86, n86⟩, tl62⟩
def t60 : List (Nat × AFun) := (85, a85) :: t61
theorem tl60 : ∀ x ∈ t60, EntryOk Tryz.prog x := List.forall_mem_cons.2 ⟨⟨_, Tryz.func85, c85, n85⟩, tl61⟩
def t59 : List (Nat × AFun) := (83, a83) :: t60
theorem tl59 : ∀ x ∈ t59, EntryOk Tryz.prog x := List.forall_mem_cons.2 ⟨⟨_, Tryz.func83, c83, n83⟩, tl60⟩
def t58 : List (Nat × AFun) := (82, a82) :: t59
theorem tl58 : ∀ x ∈ t58, EntryOk Tryz.prog x := List.forall_mem_cons.2 ⟨⟨_, Tryz.func82, c82, n82⟩, tl59⟩
def t57 : List (Nat × AFun) := (81, a81) :: t58
theorem tl57 : ∀ x ∈ t57, EntryOk Tryz.prog x := List.forall_mem_cons.2 ⟨⟨_, Tryz.func81, c81, n81⟩, tl58⟩
def t56 : List (Nat × AFun) := (78, a78) :: t57
theorem tl56 : ∀ x ∈ t56, EntryOk Tryz.prog x := List.forall_mem_cons.2 ⟨⟨_, Tryz.func78, c78, n78⟩, tl57⟩
def t55 : List (Nat × AFun) := (75, a75) :: t56
theorem tl55 : ∀ x ∈ t55, EntryOk Tryz.prog x := List.forall_mem_cons.2 ⟨⟨_, Tryz.func75, c75, n75⟩, tl56⟩
def t54 : List (Nat × AFun) := (74, a74) :: t55
theorem tl54 : ∀ x ∈ t54, EntryOk Tryz.prog x := List.forall_mem_cons.2 ⟨⟨_, Tryz.func74, c74, n74⟩, tl55⟩
def t53 : List (Nat × AFun) := (73, a73) :: t54
theorem tl53 : ∀ x ∈ t53, EntryOk Tryz.prog x := List.forall_mem_cons.2 ⟨⟨_, Tryz.func73, c73, n73⟩, tl54⟩
def t52 : List (Nat × AFun) := (72, a72) :: t53
theorem tl52 : ∀ x ∈ t52, EntryOk Tryz.prog x := List.forall_mem_cons.2 ⟨⟨_, Tryz.func72, c72, n72⟩, tl53⟩
def t51 : List (Nat × AFun) := (71, a71) :: t52
theorem tl51 : ∀ x ∈ t51, EntryOk Tryz.prog x := List.forall_mem_cons.2 ⟨⟨_, Tryz.func71, c71, n71⟩, tl52⟩
def t50 : List (Nat × AFun) := (70, a70) :: t51
theorem tl50 : ∀ x ∈ t50, EntryOk Tryz.prog x := List.forall_mem_cons.2 ⟨⟨_, Tryz.func70, c70, n70⟩, tl51⟩
def t49 : List (Nat × AFun) := (69, a69) :: t50
theorem tl49 : ∀ x ∈ t49, EntryOk Tryz.prog x := List.forall_mem_cons.2 ⟨⟨_, Tryz.func69, c69, n69⟩, tl50⟩
def t48 : List (Nat × AFun) := (68, a68) :: t49
theorem tl48 : ∀ x ∈ t48, EntryOk Tryz.prog x := List.forall_mem_cons.2 ⟨⟨_, Tryz.func68, c68, n68⟩, tl49⟩
def t47 : List (Nat × AFun) := (67, a67) :: t48
theorem tl47 : ∀ x ∈ t47, EntryOk Tryz.prog x := List.forall_mem_cons.2 ⟨⟨_, Tryz.func67, c67, n67⟩, tl48⟩
def t46 : List (Nat × AFun) := (66, a66) :: t47
theorem tl46 : ∀ x ∈ t46, EntryOk Tryz.prog x := List.forall_mem_cons.2 ⟨⟨_, Tryz.func66, c66, n66⟩, tl47⟩
def t45 : List (Nat × AFun) := (64, a64) :: t46
theorem tl45 : ∀ x ∈ t45, EntryOk Tryz.prog x := List.forall_mem_cons.2 ⟨⟨_, Tryz.func64, c64, n64⟩, tl46⟩
def t44 : List (Nat × AFun) := (60, a60) :: t45
theorem tl44 : ∀ x ∈ t44, EntryOk Tryz.prog x := List.forall_mem_cons.2 ⟨⟨_, Tryz.func60, c60, n60⟩, tl45⟩
def t43 : List (Nat × AFun) := (59, a59) :: t44
theorem tl43 : ∀ x ∈ t43, EntryOk Tryz.prog x := List.forall_mem_cons.2 ⟨⟨_, Tryz.func59, c59, n59⟩, tl44⟩
def t42 : List (Nat × AFun) := (58, a58) :: t43
theorem tl42 : ∀ x ∈ t42, EntryOk Tryz.prog x := List.forall_mem_cons.2 ⟨⟨_, Tryz.func58, c58, n58⟩, tl43⟩
def t41 : List (Nat × AFun) := (57, a57) :: t42
theorem tl41 : ∀ x ∈ t41, EntryOk Tryz.prog x := List.forall_mem_cons.2 ⟨⟨_, Tryz.func57, c57, n57⟩, tl42⟩
def t40 : List (Nat × AFun) := (56, a56) :: t41
theorem tl40 : ∀ x ∈ t40, EntryOk Tryz.prog x := List.forall_mem_cons.2 ⟨⟨_, Tryz.func56, c56, n56⟩, tl41⟩
def t39 : List (Nat × AFun) := (55, a55) :: t40
theorem tl39 : ∀ x ∈ t39, EntryOk Tryz.prog x := List.forall_mem_cons.2 ⟨⟨_, Tryz.func55, c55, n55⟩, tl40⟩
def t38 : List (Nat × AFun) := (54, a54) :: t39
theorem tl38 : ∀ x ∈ t38, EntryOk Tryz.prog x := List.forall_mem_cons.2 ⟨⟨_, Tryz.func54, c54, n54⟩, tl39⟩
def t37 : List (Nat × AFun) := (53, a53) :: t38
theorem tl37 : ∀ x ∈ t37, EntryOk Tryz.prog x := List.forall_mem_cons.2 ⟨⟨_, Tryz.func53, c53, n53⟩, tl38⟩
def t36 : List (Nat × AFun) := (52, a52) :: t37
theorem tl36 : ∀ x ∈ t36, EntryOk Tryz.prog x := List.forall_mem_cons.2 ⟨⟨_, Tryz.func52, c52, n52⟩, tl37⟩
def t35 : List (Nat × AFun) := (51, a51) :: t36
theorem tl35 : ∀ x ∈ t35, EntryOk Tryz.prog x := List.forall_mem_cons.2 ⟨⟨_, Tryz.func51, c51, n51⟩, tl36⟩
def t34 : List (Nat × AFun) := (50, a50) :: t35
theorem tl34 : ∀ x ∈ t34, EntryOk Tryz.prog x := List.forall_mem_cons.2 ⟨⟨_, Tryz.func50, c50, n50⟩, tl35⟩
def t33 : List (Nat × AFun) := (47, a47) :: t34
theorem tl33 : ∀ x ∈ t33, EntryOk Tryz.prog x := List.forall_mem_cons.2 ⟨⟨_, Tryz.func47, c47, n47⟩, tl34⟩
def t32 : List (Nat × AFun) := (37, a37) :: t33
theorem tl32 : ∀ x ∈ t32, EntryOk Tryz.prog x := List.forall_mem_cons.2 ⟨⟨_, Tryz.func37, c37, n37⟩, tl33⟩
def t31 : List (Nat × AFun) := (36, a36) :: t32
theorem tl31 : ∀ x ∈ t31, EntryOk Tryz.prog x := List.forall_mem_cons.2 ⟨⟨_, Tryz.func36, c36, n36⟩, tl32⟩
def t30 : List (Nat × AFun) := (34, a34) :: t31
theorem tl30 : ∀ x ∈ t30, EntryOk Tryz.prog x := List.forall_mem_cons.2 ⟨⟨_, Tryz.func34, c34, n34⟩, tl31⟩
def t29 : List (Nat × AFun) := (33, a33) :: t30
theorem tl29 : ∀ x ∈ t29, EntryOk Tryz.prog x := List.forall_mem_cons.2 ⟨⟨_, Tryz.func33, c33, n33⟩, tl30⟩
def t28 : List (Nat × AFun) := (32, a32) :: t29
theorem tl28 : ∀ x ∈ t28, EntryOk Tryz.prog x := List.forall_mem_cons.2 ⟨⟨_, Tryz.func32, c32, n32⟩, tl29⟩
def t27 : List (Nat × AFun) := (31, a31) :: t28
theorem tl27 : ∀ x ∈ t27, EntryOk Tryz.prog x := List.forall_mem_cons.2 ⟨⟨_, Tryz.func31, c31, n31⟩, tl28⟩
def t26 : List (Nat × AFun) := (30, a30) :: t27
theorem tl26 : ∀ x ∈ t26, EntryOk Tryz.prog x := List.forall_mem_cons.2 ⟨⟨_, Tryz.func30, c30, n30⟩, tl27⟩
def t25 : List (Nat × AFun) := (29, a29) :: t26
theorem tl25 : ∀ x ∈ t25, EntryOk Tryz.prog x := List.forall_mem_cons.2 ⟨⟨_, Tryz.func29, c29, n29⟩, tl26⟩
def t24 : List (Nat × AFun) := (28, a28) :: t25
theorem tl24 : ∀ x ∈ t24, EntryOk Tryz.prog x := List.forall_mem_cons.2 ⟨⟨_, Tryz.func28, c28, n28⟩, tl25⟩
def t23 : List (Nat × AFun) := (27, a27) :: t24
theorem tl23 : ∀ x ∈ t23, EntryOk Tryz.prog x := List.forall_mem_cons.2 ⟨⟨_, Tryz.func27, c27, n27⟩, tl24⟩
def t22 : List (Nat × AFun) := (26, a26) :: t23
theorem tl22 : ∀ x ∈ t22, EntryOk Tryz.prog x := List.forall_mem_cons.2 ⟨⟨_, Tryz.func26, c26, n26⟩, tl23⟩
def t21 : List (Nat × AFun) := (25, a25) :: t22
theorem tl21 : ∀ x ∈ t21, EntryOk Tryz.prog x := List.forall_mem_cons.2 ⟨⟨_, Tryz.func25, c25, n25⟩, tl22⟩
def t20 : List (Nat × AFun) := (24, a24) :: t21
theorem tl20 : ∀ x ∈ t20, EntryOk Tryz.prog x := List.forall_mem_cons.2 ⟨⟨_, Tryz.func24, c24, n24⟩, tl21⟩
def t19 : List (Nat × AFun) := (23, a23) :: t20
theorem tl19 : ∀ x ∈ t19, EntryOk Tryz.prog x := List.forall_mem_cons.2 ⟨⟨_, Tryz.func23, c23, n23⟩, tl20⟩
def t18 : List (Nat × AFun) := (22, a22) :: t19
theorem tl18 : ∀ x ∈ t18, EntryOk Tryz.prog x := List.forall_mem_cons.2 ⟨⟨_, Tryz.func22, c22, n22⟩, tl19⟩
def t17 : List (Nat × AFun) := (21, a21) :: t18
theorem tl17 : ∀ x ∈ t17, EntryOk Tryz.prog x := List.forall_mem_cons.2 ⟨⟨_, Tryz.func21, c21, n21⟩, tl18⟩
def t16 : List (Nat × AFun) := (20, a20) :: t17
theorem tl16 : ∀ x ∈ t16, EntryOk Tryz.prog x := List.forall_mem_cons.2 ⟨⟨_, Tryz.func20, c20, n20⟩, tl17⟩
def t15 : List (Nat × AFun) := (19, a19) :: t16
theorem tl15 : ∀ x ∈ t15, EntryOk Tryz.prog x := List.forall_mem_cons.2 ⟨⟨_, Tryz.func19, c19, n19⟩, tl16⟩
def t14 : List (Nat × AFun) := (18, a18) :: t15
theorem tl14 : ∀ x ∈ t14, EntryOk Tryz.prog x := List.forall_mem_cons.2 ⟨⟨_, Tryz.func18, c18, n18⟩, tl15⟩
def t13 : List (Nat × AFun) := (17, a17) :: t14
theorem tl13 : ∀ x ∈ t13, EntryOk Tryz.prog x := List.forall_mem_cons.2 ⟨⟨_, Tryz.func17, c17, n17⟩, tl14⟩
def t12 : List (Nat × AFun) := (16, a16) :: t13
theorem tl12 : ∀ x ∈ t12, EntryOk Tryz.prog x := List.forall_mem_cons.2 ⟨⟨_, Tryz.func16, c16, n16⟩, tl13⟩
def t11 : List (Nat × AFun) := (15, a15) :: t12
theorem tl11 : ∀ x ∈ t11, EntryOk Tryz.prog x := List.forall_mem_cons.2 ⟨⟨_, Tryz.func15, c15, n15⟩, tl12⟩
def t10 : List (Nat × AFun) := (14, a14) :: t11
theorem tl10 : ∀ x ∈ t10, EntryOk Tryz.prog x := List.forall_mem_cons.2 ⟨⟨_, Tryz.func14, c14, n14⟩, tl11⟩
def t9 : List (Nat × AFun) := (13, a13) :: t10
theorem tl9 : ∀ x ∈ t9, EntryOk Tryz.prog x := List.forall_mem_cons.2 ⟨⟨_, Tryz.func13, c13, n13⟩, tl10⟩
def t8 : List (Nat × AFun) := (12, a12) :: t9
theorem tl8 : ∀ x ∈ t8, EntryOk Tryz.prog x := List.forall_mem_cons.2 ⟨⟨_, Tryz.func12, c12, n12⟩, tl9⟩
def t7 : List (Nat × AFun) := (11, a11) :: t8
theorem tl7 : ∀ x ∈ t7, EntryOk Tryz.prog x := List.forall_mem_cons.2 ⟨⟨_, Tryz.func11, c11, n11⟩, tl8⟩
def t6 : List (Nat × AFun) := (10, a10) :: t7
theorem tl6 : ∀ x ∈ t6, EntryOk Tryz.prog x := List.forall_mem_cons.2 ⟨⟨_, Tryz.func10, c10, n10⟩, tl7⟩
def t5 : List (Nat × AFun) := (9, a9) :: t6
theorem tl5 : ∀ x ∈ t5, EntryOk Tryz.prog x := List.forall_mem_cons.2 ⟨⟨_, Tryz.func9, c9, n9⟩, tl6⟩
def t4 : List (Nat × AFun) := (8, a8) :: t5
theorem tl4 : ∀ x ∈ t4, EntryOk Tryz.prog x := List.forall_mem_cons.2 ⟨⟨_, Tryz.func8, c8, n8⟩, tl5⟩
def t3 : List (Nat × AFun) := (7, a7) :: t4
theorem tl3 : ∀ x ∈ t3, EntryOk Tryz.prog x := List.forall_mem_cons.2 ⟨⟨_, Tryz.func7, c7, n7⟩, tl4⟩
def t2 : List (Nat × AFun) := (6, a6) :: t3
theorem tl2 : ∀ x ∈ t2, EntryOk Tryz.prog x := List.forall_mem_cons.2 ⟨⟨_, Tryz.func6, c6, n6⟩, tl3⟩
def t1 : List (Nat × AFun) := (5, a5) :: t2
theorem tl1 : ∀ x ∈ t1, EntryOk Tryz.prog x := List.forall_mem_cons.2 ⟨⟨_, Tryz.func5, c5, n5⟩, tl2⟩
def t0 : List (Nat × AFun) := (4, a4) :: t1
theorem tl0 : ∀ x ∈ t0, EntryOk Tryz.prog x := List.forall_mem_cons.2 ⟨⟨_, Tryz.func4, c4, n4⟩, tl1⟩
theorem tab_t : tab = t0 := rfl
theorem funs_ok : FunsOk Tryz.prog (look tab) := funs_of_all (tab_t ▸ tl0)
theorem mixed : Tryz.prog.follows .mixedOrders = true := by kernel_rfl
end Go.AM
