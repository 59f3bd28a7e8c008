/-
  The functions that the abstract machine runs are the program's own, compiled: one equation each, by the kernel.
-/
import Derived.Test.YtgdjmcfdopbnkaaGreatDoorLit1
import Derived.Test.YtgdjmcfdopbnkaaGreatDoorLit2
import Derived.Test.YtgdjmcfdopbnkaaGreatDoorAmHook
import Derived.Test.YtgdjmcfdopbnkaaGreatDoorChecked
import Derived.KernelRfl
set_option maxRecDepth 100000
namespace Go.AM
open Go.Proofs
theorem c3 : compFun Tryz.prog Tryz.f3 = some a3 := by kernel_rfl
theorem n3 : (Tryz.f3.name == "runtime.NumGoroutine") = false := by kernel_rfl
theorem c10 : compFun Tryz.prog Tryz.f10 = some a10 := by kernel_rfl
theorem n10 : (Tryz.f10.name == "runtime.NumGoroutine") = false := by kernel_rfl
theorem c11 : compFun Tryz.prog Tryz.f11 = some a11 := by kernel_rfl
theorem n11 : (Tryz.f11.name == "runtime.NumGoroutine") = false := by kernel_rfl
theorem c12 : compFun Tryz.prog Tryz.f12 = some a12 := by kernel_rfl
theorem n12 : (Tryz.f12.name == "runtime.NumGoroutine") = false := by kernel_rfl
theorem c13 : compFun Tryz.prog Tryz.f13 = some a13 := by kernel_rfl
theorem n13 : (Tryz.f13.name == "runtime.NumGoroutine") = false := by kernel_rfl
theorem c14 : compFun Tryz.prog Tryz.f14 = some a14 := by kernel_rfl
theorem n14 : (Tryz.f14.name == "runtime.NumGoroutine") = false := by kernel_rfl
theorem c15 : compFun Tryz.prog Tryz.f15 = some a15 := by kernel_rfl
theorem n15 : (Tryz.f15.name == "runtime.NumGoroutine") = false := by kernel_rfl
theorem c16 : compFun Tryz.prog Tryz.f16 = some a16 := by kernel_rfl
theorem n16 : (Tryz.f16.name == "runtime.NumGoroutine") = false := by kernel_rfl
theorem c17 : compFun Tryz.prog Tryz.f17 = some a17 := by kernel_rfl
theorem n17 : (Tryz.f17.name == "runtime.NumGoroutine") = false := by kernel_rfl
theorem c18 : compFun Tryz.prog Tryz.f18 = some a18 := by kernel_rfl
theorem n18 : (Tryz.f18.name == "runtime.NumGoroutine") = false := by kernel_rfl
theorem c26 : compFun Tryz.prog Tryz.f26 = some a26 := by kernel_rfl
theorem n26 : (Tryz.f26.name == "runtime.NumGoroutine") = false := by kernel_rfl
theorem c28 : compFun Tryz.prog Tryz.f28 = some a28 := by kernel_rfl
theorem n28 : (Tryz.f28.name == "runtime.NumGoroutine") = false := by kernel_rfl
theorem c29 : compFun Tryz.prog Tryz.f29 = some a29 := by kernel_rfl
theorem n29 : (Tryz.f29.name == "runtime.NumGoroutine") = false := by kernel_rfl
theorem c32 : compFun Tryz.prog Tryz.f32 = some a32 := by kernel_rfl
theorem n32 : (Tryz.f32.name == "runtime.NumGoroutine") = false := by kernel_rfl
theorem c33 : compFun Tryz.prog Tryz.f33 = some a33 := by kernel_rfl
theorem n33 : (Tryz.f33.name == "runtime.NumGoroutine") = false := by kernel_rfl
theorem c34 : compFun Tryz.prog Tryz.f34 = some a34 := by kernel_rfl
theorem n34 : (Tryz.f34.name == "runtime.NumGoroutine") = false := by kernel_rfl
theorem c35 : compFun Tryz.prog Tryz.f35 = some a35 := by kernel_rfl
theorem n35 : (Tryz.f35.name == "runtime.NumGoroutine") = false := by kernel_rfl
theorem c36 : compFun Tryz.prog Tryz.f36 = some a36 := by kernel_rfl
theorem n36 : (Tryz.f36.name == "runtime.NumGoroutine") = false := by kernel_rfl
theorem c37 : compFun Tryz.prog Tryz.f37 = some a37 := by kernel_rfl
theorem n37 : (Tryz.f37.name == "runtime.NumGoroutine") = false := by kernel_rfl
theorem c38 : compFun Tryz.prog Tryz.f38 = some a38 := by kernel_rfl
theorem n38 : (Tryz.f38.name == "runtime.NumGoroutine") = false := by kernel_rfl
theorem c39 : compFun Tryz.prog Tryz.f39 = some a39 := by kernel_rfl
theorem n39 : (Tryz.f39.name == "runtime.NumGoroutine") = false := by kernel_rfl
theorem c40 : compFun Tryz.prog Tryz.f40 = some a40 := by kernel_rfl
theorem n40 : (Tryz.f40.name == "runtime.NumGoroutine") = false := by kernel_rfl
theorem c47 : compFun Tryz.prog Tryz.f47 = some a47 := by kernel_rfl
theorem n47 : (Tryz.f47.name == "runtime.NumGoroutine") = false := by kernel_rfl
theorem c49 : compFun Tryz.prog Tryz.f49 = some a49 := by kernel_rfl
theorem n49 : (Tryz.f49.name == "runtime.NumGoroutine") = false := by kernel_rfl
theorem c50 : compFun Tryz.prog Tryz.f50 = some a50 := by kernel_rfl
theorem n50 : (Tryz.f50.name == "runtime.NumGoroutine") = false := by kernel_rfl
theorem c51 : compFun Tryz.prog Tryz.f51 = some a51 := by kernel_rfl
theorem n51 : (Tryz.f51.name == "runtime.NumGoroutine") = false := by kernel_rfl
theorem c55 : compFun Tryz.prog Tryz.f55 = some a55 := by kernel_rfl
theorem n55 : (Tryz.f55.name == "runtime.NumGoroutine") = false := by kernel_rfl
theorem c57 : compFun Tryz.prog Tryz.f57 = some a57 := by kernel_rfl
theorem n57 : (Tryz.f57.name == "runtime.NumGoroutine") = false := by kernel_rfl
theorem c58 : compFun Tryz.prog Tryz.f58 = some a58 := by kernel_rfl
theorem n58 : (Tryz.f58.name == "runtime.NumGoroutine") = false := by kernel_rfl
theorem c64 : compFun Tryz.prog Tryz.f64 = some a64 := by kernel_rfl
theorem n64 : (Tryz.f64.name == "runtime.NumGoroutine") = false := by kernel_rfl
theorem c65 : compFun Tryz.prog Tryz.f65 = some a65 := by kernel_rfl
theorem n65 : (Tryz.f65.name == "runtime.NumGoroutine") = false := by kernel_rfl
theorem c66 : compFun Tryz.prog Tryz.f66 = some a66 := by kernel_rfl
theorem n66 : (Tryz.f66.name == "runtime.NumGoroutine") = false := by kernel_rfl
theorem c67 : compFun Tryz.prog Tryz.f67 = some a67 := by kernel_rfl
theorem n67 : (Tryz.f67.name == "runtime.NumGoroutine") = false := by kernel_rfl
theorem c68 : compFun Tryz.prog Tryz.f68 = some a68 := by kernel_rfl
theorem n68 : (Tryz.f68.name == "runtime.NumGoroutine") = false := by kernel_rfl
theorem c69 : compFun Tryz.prog Tryz.f69 = some a69 := by kernel_rfl
theorem n69 : (Tryz.f69.name == "runtime.NumGoroutine") = false := by kernel_rfl
theorem c70 : compFun Tryz.prog Tryz.f70 = some a70 := by kernel_rfl
theorem n70 : (Tryz.f70.name == "runtime.NumGoroutine") = false := by kernel_rfl
theorem c71 : compFun Tryz.prog Tryz.f71 = some a71 := by kernel_rfl
theorem n71 : (Tryz.f71.name == "runtime.NumGoroutine") = false := by kernel_rfl
theorem c72 : compFun Tryz.prog Tryz.f72 = some a72 := by kernel_rfl
theorem n72 : (Tryz.f72.name == "runtime.NumGoroutine") = false := by kernel_rfl
theorem c73 : compFun Tryz.prog Tryz.f73 = some a73 := by kernel_rfl
theorem n73 : (Tryz.f73.name == "runtime.NumGoroutine") = false := by kernel_rfl
theorem c74 : compFun Tryz.prog Tryz.f74 = some a74 := by kernel_rfl
theorem n74 : (Tryz.f74.name == "runtime.NumGoroutine") = false := by kernel_rfl
theorem c75 : compFun Tryz.prog Tryz.f75 = some a75 := by kernel_rfl
theorem n75 : (Tryz.f75.name == "runtime.NumGoroutine") = false := by kernel_rfl
theorem c76 : compFun Tryz.prog Tryz.f76 = some a76 := by kernel_rfl
theorem n76 : (Tryz.f76.name == "runtime.NumGoroutine") = false := by kernel_rfl
theorem c87 : compFun Tryz.prog Tryz.f87 = some a87 := by kernel_rfl
theorem n87 : (Tryz.f87.name == "runtime.NumGoroutine") = false := by kernel_rfl
theorem c88 : compFun Tryz.prog Tryz.f88 = some a88 := by kernel_rfl
theorem n88 : (Tryz.f88.name == "runtime.NumGoroutine") = false := by kernel_rfl
theorem c89 : compFun Tryz.prog Tryz.f89 = some a89 := by kernel_rfl
theorem n89 : (Tryz.f89.name == "runtime.NumGoroutine") = false := by kernel_rfl
theorem c90 : compFun Tryz.prog Tryz.f90 = some a90 := by kernel_rfl
theorem n90 : (Tryz.f90.name == "runtime.NumGoroutine") = false := by kernel_rfl
theorem c91 : compFun Tryz.prog Tryz.f91 = some a91 := by kernel_rfl
theorem n91 : (Tryz.f91.name == "runtime.NumGoroutine") = false := by kernel_rfl
theorem c92 : compFun Tryz.prog Tryz.f92 = some a92 := by kernel_rfl
theorem n92 : (Tryz.f92.name == "runtime.NumGoroutine") = false := by kernel_rfl
theorem c93 : compFun Tryz.prog Tryz.f93 = some a93 := by kernel_rfl
theorem n93 : (Tryz.f93.name == "runtime.NumGoroutine") = false := by kernel_rfl
theorem c94 : compFun Tryz.prog Tryz.f94 = some a94 := by kernel_rfl
theorem n94 : (Tryz.f94.name == "runtime.NumGoroutine") = false := by kernel_rfl
theorem c95 : compFun Tryz.prog Tryz.f95 = some a95 := by kernel_rfl
theorem n95 : (Tryz.f95.name == "runtime.NumGoroutine") = false := by kernel_rfl
theorem c96 : compFun Tryz.prog Tryz.f96 = some a96 := by kernel_rfl
theorem n96 : (Tryz.f96.name == "runtime.NumGoroutine") = false := by kernel_rfl
theorem c97 : compFun Tryz.prog Tryz.f97 = some a97 := by kernel_rfl
theorem n97 : (Tryz.f97.name == "runtime.NumGoroutine") = false := by kernel_rfl
theorem c98 : compFun Tryz.prog Tryz.f98 = some a98 := by kernel_rfl
theorem n98 : (Tryz.f98.name == "runtime.NumGoroutine") = false := by kernel_rfl
theorem c99 : compFun Tryz.prog Tryz.f99 = some a99 := by kernel_rfl
theorem n99 : (Tryz.f99.name == "runtime.NumGoroutine") = false := by kernel_rfl
theorem c101 : compFun Tryz.prog Tryz.f101 = some a101 := by kernel_rfl
theorem n101 : (Tryz.f101.name == "runtime.NumGoroutine") = false := by kernel_rfl
theorem c102 : compFun Tryz.prog Tryz.f102 = some a102 := by kernel_rfl
theorem n102 : (Tryz.f102.name == "runtime.NumGoroutine") = false := by kernel_rfl
theorem c105 : compFun Tryz.prog Tryz.f105 = some a105 := by kernel_rfl
theorem n105 : (Tryz.f105.name == "runtime.NumGoroutine") = false := by kernel_rfl
theorem c106 : compFun Tryz.prog Tryz.f106 = some a106 := by kernel_rfl
theorem n106 : (Tryz.f106.name == "runtime.NumGoroutine") = false := by kernel_rfl
theorem c110 : compFun Tryz.prog Tryz.f110 = some a110 := by kernel_rfl
theorem n110 : (Tryz.f110.name == "runtime.NumGoroutine") = false := by kernel_rfl
theorem c111 : compFun Tryz.prog Tryz.f111 = some a111 := by kernel_rfl
theorem n111 : (Tryz.f111.name == "runtime.NumGoroutine") = false := by kernel_rfl
theorem c112 : compFun Tryz.prog Tryz.f112 = some a112 := by kernel_rfl
theorem n112 : (Tryz.f112.name == "runtime.NumGoroutine") = false := by kernel_rfl
theorem c113 : compFun Tryz.prog Tryz.f113 = some a113 := by kernel_rfl
theorem n113 : (Tryz.f113.name == "runtime.NumGoroutine") = false := by kernel_rfl
theorem c114 : compFun Tryz.prog Tryz.f114 = some a114 := by kernel_rfl
theorem n114 : (Tryz.f114.name == "runtime.NumGoroutine") = false := by kernel_rfl
theorem c115 : compFun Tryz.prog Tryz.f115 = some a115 := by kernel_rfl
theorem n115 : (Tryz.f115.name == "runtime.NumGoroutine") = false := by kernel_rfl
theorem c116 : compFun Tryz.prog Tryz.f116 = some a116 := by kernel_rfl
theorem n116 : (Tryz.f116.name == "runtime.NumGoroutine") = false := by kernel_rfl
theorem c117 : compFun Tryz.prog Tryz.f117 = some a117 := by kernel_rfl
theorem n117 : (Tryz.f117.name == "runtime.NumGoroutine") = false := by kernel_rfl
theorem c129 : compFun Tryz.prog Tryz.f129 = some a129 := by kernel_rfl
theorem n129 : (Tryz.f129.name == "runtime.NumGoroutine") = false := by kernel_rfl
theorem c130 : compFun Tryz.prog Tryz.f130 = some a130 := by kernel_rfl
theorem n130 : (Tryz.f130.name == "runtime.NumGoroutine") = false := by kernel_rfl
theorem c131 : compFun Tryz.prog Tryz.f131 = some a131 := by kernel_rfl
theorem n131 : (Tryz.f131.name == "runtime.NumGoroutine") = false := by kernel_rfl
theorem c132 : compFun Tryz.prog Tryz.f132 = some a132 := by kernel_rfl
theorem n132 : (Tryz.f132.name == "runtime.NumGoroutine") = false := by kernel_rfl
theorem c133 : compFun Tryz.prog Tryz.f133 = some a133 := by kernel_rfl
theorem n133 : (Tryz.f133.name == "runtime.NumGoroutine") = false := by kernel_rfl
theorem c134 : compFun Tryz.prog Tryz.f134 = some a134 := by kernel_rfl
theorem n134 : (Tryz.f134.name == "runtime.NumGoroutine") = false := by kernel_rfl
theorem c135 : compFun Tryz.prog Tryz.f135 = some a135 := by kernel_rfl
theorem n135 : (Tryz.f135.name == "runtime.NumGoroutine") = false := by kernel_rfl
theorem c136 : compFun Tryz.prog Tryz.f136 = some a136 := by kernel_rfl
theorem n136 : (Tryz.f136.name == "runtime.NumGoroutine") = false := by kernel_rfl
theorem c137 : compFun Tryz.prog Tryz.f137 = some a137 := by kernel_rfl
theorem n137 : (Tryz.f137.name == "runtime.NumGoroutine") = false := by kernel_rfl
theorem c142 : compFun Tryz.prog Tryz.f142 = some a142 := by kernel_rfl
theorem n142 : (Tryz.f142.name == "runtime.NumGoroutine") = false := by kernel_rfl
theorem c158 : compFun Tryz.prog Tryz.f158 = some a158 := by kernel_rfl
theorem n158 : (Tryz.f158.name == "runtime.NumGoroutine") = false := by kernel_rfl
theorem c159 : compFun Tryz.prog Tryz.f159 = some a159 := by kernel_rfl
theorem n159 : (Tryz.f159.name == "runtime.NumGoroutine") = false := by kernel_rfl
theorem c162 : compFun Tryz.prog Tryz.f162 = some a162 := by kernel_rfl
theorem n162 : (Tryz.f162.name == "runtime.NumGoroutine") = false := by kernel_rfl
theorem c163 : compFun Tryz.prog Tryz.f163 = some a163 := by kernel_rfl
theorem n163 : (Tryz.f163.name == "runtime.NumGoroutine") = false := by kernel_rfl
theorem c165 : compFun Tryz.prog Tryz.f165 = some a165 := by kernel_rfl
theorem n165 : (Tryz.f165.name == "runtime.NumGoroutine") = false := by kernel_rfl
theorem c166 : compFun Tryz.prog Tryz.f166 = some a166 := by kernel_rfl
theorem n166 : (Tryz.f166.name == "runtime.NumGoroutine") = false := by kernel_rfl
theorem c167 : compFun Tryz.prog Tryz.f167 = some a167 := by kernel_rfl
theorem n167 : (Tryz.f167.name == "runtime.NumGoroutine") = false := by kernel_rfl
theorem c168 : compFun Tryz.prog Tryz.f168 = some a168 := by kernel_rfl
theorem n168 : (Tryz.f168.name == "runtime.NumGoroutine") = false := by kernel_rfl
theorem c169 : compFun Tryz.prog Tryz.f169 = some a169 := by kernel_rfl
theorem n169 : (Tryz.f169.name == "runtime.NumGoroutine") = false := by kernel_rfl
theorem c171 : compFun Tryz.prog Tryz.f171 = some a171 := by kernel_rfl
theorem n171 : (Tryz.f171.name == "runtime.NumGoroutine") = false := by kernel_rfl
theorem c172 : compFun Tryz.prog Tryz.f172 = some a172 := by kernel_rfl
theorem n172 : (Tryz.f172.name == "runtime.NumGoroutine") = false := by kernel_rfl
theorem c173 : compFun Tryz.prog Tryz.f173 = some a173 := by kernel_rfl
theorem n173 : (Tryz.f173.name == "runtime.NumGoroutine") = false := by kernel_rfl
theorem c174 : compFun Tryz.prog Tryz.f174 = some a174 := by kernel_rfl
theorem n174 : (Tryz.f174.name == "runtime.NumGoroutine") = false := by kernel_rfl
theorem c175 : compFun Tryz.prog Tryz.f175 = some a175 := by kernel_rfl
theorem n175 : (Tryz.f175.name == "runtime.NumGoroutine") = false := by kernel_rfl
theorem c176 : compFun Tryz.prog Tryz.f176 = some a176 := by kernel_rfl
theorem n176 : (Tryz.f176.name == "runtime.NumGoroutine") = false := by kernel_rfl
theorem c178 : compFun Tryz.prog Tryz.f178 = some a178 := by kernel_rfl
theorem n178 : (Tryz.f178.name == "runtime.NumGoroutine") = false := by kernel_rfl
theorem c179 : compFun Tryz.prog Tryz.f179 = some a179 := by kernel_rfl
theorem n179 : (Tryz.f179.name == "runtime.NumGoroutine") = false := by kernel_rfl
theorem c181 : compFun Tryz.prog Tryz.f181 = some a181 := by kernel_rfl
theorem n181 : (Tryz.f181.name == "runtime.NumGoroutine") = false := by kernel_rfl
theorem c184 : compFun Tryz.prog Tryz.f184 = some a184 := by kernel_rfl
theorem n184 : (Tryz.f184.name == "runtime.NumGoroutine") = false := by kernel_rfl
theorem c190 : compFun Tryz.prog Tryz.f190 = some a190 := by kernel_rfl
theorem n190 : (Tryz.f190.name == "runtime.NumGoroutine") = false := by kernel_rfl
theorem c191 : compFun Tryz.prog Tryz.f191 = some a191 := by kernel_rfl
theorem n191 : (Tryz.f191.name == "runtime.NumGoroutine") = false := by kernel_rfl
theorem c193 : compFun Tryz.prog Tryz.f193 = some a193 := by kernel_rfl
theorem n193 : (Tryz.f193.name == "runtime.NumGoroutine") = false := by kernel_rfl
theorem c194 : compFun Tryz.prog Tryz.f194 = some a194 := by kernel_rfl
theorem n194 : (Tryz.f194.name == "runtime.NumGoroutine") = false := by kernel_rfl
theorem c195 : compFun Tryz.prog Tryz.f195 = some a195 := by kernel_rfl
theorem n195 : (Tryz.f195.name == "runtime.NumGoroutine") = false := by kernel_rfl
theorem c196 : compFun Tryz.prog Tryz.f196 = some a196 := by kernel_rfl
theorem n196 : (Tryz.f196.name == "runtime.NumGoroutine") = false := by kernel_rfl
theorem c210 : compFun Tryz.prog Tryz.f210 = some a210 := by kernel_rfl
theorem n210 : (Tryz.f210.name == "runtime.NumGoroutine") = false := by kernel_rfl
theorem c211 : compFun Tryz.prog Tryz.f211 = some a211 := by kernel_rfl
theorem n211 : (Tryz.f211.name == "runtime.NumGoroutine") = false := by kernel_rfl
theorem c212 : compFun Tryz.prog Tryz.f212 = some a212 := by kernel_rfl
theorem n212 : (Tryz.f212.name == "runtime.NumGoroutine") = false := by kernel_rfl
theorem c215 : compFun Tryz.prog Tryz.f215 = some a215 := by kernel_rfl
theorem n215 : (Tryz.f215.name == "runtime.NumGoroutine") = false := by kernel_rfl
theorem c216 : compFun Tryz.prog Tryz.f216 = some a216 := by kernel_rfl
theorem n216 : (Tryz.f216.name == "runtime.NumGoroutine") = false := by kernel_rfl
theorem c217 : compFun Tryz.prog Tryz.f217 = some a217 := by kernel_rfl
theorem n217 : (Tryz.f217.name == "runtime.NumGoroutine") = false := by kernel_rfl
theorem c218 : compFun Tryz.prog Tryz.f218 = some a218 := by kernel_rfl
theorem n218 : (Tryz.f218.name == "runtime.NumGoroutine") = false := by kernel_rfl
theorem c219 : compFun Tryz.prog Tryz.f219 = some a219 := by kernel_rfl
theorem n219 : (Tryz.f219.name == "runtime.NumGoroutine") = false := by kernel_rfl
theorem c222 : compFun Tryz.prog Tryz.f222 = some a222 := by kernel_rfl
theorem n222 : (Tryz.f222.name == "runtime.NumGoroutine") = false := by kernel_rfl
theorem c225 : compFun Tryz.prog Tryz.f225 = some a225 := by kernel_rfl
theorem n225 : (Tryz.f225.name == "runtime.NumGoroutine") = false := by kernel_rfl
theorem c227 : compFun Tryz.prog Tryz.f227 = some a227 := by kernel_rfl
theorem n227 : (Tryz.f227.name == "runtime.NumGoroutine") = false := by kernel_rfl
theorem c239 : compFun Tryz.prog Tryz.f239 = some a239 := by kernel_rfl
theorem n239 : (Tryz.f239.name == "runtime.NumGoroutine") = false := by kernel_rfl
theorem c240 : compFun Tryz.prog Tryz.f240 = some a240 := by kernel_rfl
theorem n240 : (Tryz.f240.name == "runtime.NumGoroutine") = false := by kernel_rfl
theorem c243 : compFun Tryz.prog Tryz.f243 = some a243 := by kernel_rfl
theorem n243 : (Tryz.f243.name == "runtime.NumGoroutine") = false := by kernel_rfl
theorem c244 : compFun Tryz.prog Tryz.f244 = some a244 := by kernel_rfl
theorem n244 : (Tryz.f244.name == "runtime.NumGoroutine") = false := by kernel_rfl
theorem c247 : compFun Tryz.prog Tryz.f247 = some a247 := by kernel_rfl
theorem n247 : (Tryz.f247.name == "runtime.NumGoroutine") = false := by kernel_rfl
theorem c248 : compFun Tryz.prog Tryz.f248 = some a248 := by kernel_rfl
theorem n248 : (Tryz.f248.name == "runtime.NumGoroutine") = false := by kernel_rfl
theorem c249 : compFun Tryz.prog Tryz.f249 = some a249 := by kernel_rfl
theorem n249 : (Tryz.f249.name == "runtime.NumGoroutine") = false := by kernel_rfl
theorem c252 : compFun Tryz.prog Tryz.f252 = some a252 := by kernel_rfl
theorem n252 : (Tryz.f252.name == "runtime.NumGoroutine") = false := by kernel_rfl
theorem c254 : compFun Tryz.prog Tryz.f254 = some a254 := by kernel_rfl
theorem n254 : (Tryz.f254.name == "runtime.NumGoroutine") = false := by kernel_rfl
theorem c256 : compFun Tryz.prog Tryz.f256 = some a256 := by kernel_rfl
theorem n256 : (Tryz.f256.name == "runtime.NumGoroutine") = false := by kernel_rfl
theorem c257 : compFun Tryz.prog Tryz.f257 = some a257 := by kernel_rfl
theorem n257 : (Tryz.f257.name == "runtime.NumGoroutine") = false := by kernel_rfl
theorem c258 : compFun Tryz.prog Tryz.f258 = some a258 := by kernel_rfl
theorem n258 : (Tryz.f258.name == "runtime.NumGoroutine") = false := by kernel_rfl
theorem c262 : compFun Tryz.prog Tryz.f262 = some a262 := by kernel_rfl
theorem n262 : (Tryz.f262.name == "runtime.NumGoroutine") = false := by kernel_rfl
theorem c263 : compFun Tryz.prog Tryz.f263 = some a263 := by kernel_rfl
theorem n263 : (Tryz.f263.name == "runtime.NumGoroutine") = false := by kernel_rfl
theorem c264 : compFun Tryz.prog Tryz.f264 = some a264 := by kernel_rfl
theorem n264 : (Tryz.f264.name == "runtime.NumGoroutine") = false := by kernel_rfl
theorem c265 : compFun Tryz.prog Tryz.f265 = some a265 := by kernel_rfl
theorem n265 : (Tryz.f265.name == "runtime.NumGoroutine") = false := by kernel_rfl
theorem c266 : compFun Tryz.prog Tryz.f266 = some a266 := by kernel_rfl
theorem n266 : (Tryz.f266.name == "runtime.NumGoroutine") = false := by kernel_rfl
theorem c267 : compFun Tryz.prog Tryz.f267 = some a267 := by kernel_rfl
theorem n267 : (Tryz.f267.name == "runtime.NumGoroutine") = false := by kernel_rfl
theorem c270 : compFun Tryz.prog Tryz.f270 = some a270 := by kernel_rfl
theorem n270 : (Tryz.f270.name == "runtime.NumGoroutine") = false := by kernel_rfl
theorem c272 : compFun Tryz.prog Tryz.f272 = some a272 := by kernel_rfl
theorem n272 : (Tryz.f272.name == "runtime.NumGoroutine") = false := by kernel_rfl
theorem c274 : compFun Tryz.prog Tryz.f274 = some a274 := by kernel_rfl
theorem n274 : (Tryz.f274.name == "runtime.NumGoroutine") = false := by kernel_rfl
theorem c275 : compFun Tryz.prog Tryz.f275 = some a275 := by kernel_rfl
theorem n275 : (Tryz.f275.name == "runtime.NumGoroutine") = false := by kernel_rfl
theorem c276 : compFun Tryz.prog Tryz.f276 = some a276 := by kernel_rfl
theorem n276 : (Tryz.f276.name == "runtime.NumGoroutine") = false := by kernel_rfl
theorem c277 : compFun Tryz.prog Tryz.f277 = some a277 := by kernel_rfl
theorem n277 : (Tryz.f277.name == "runtime.NumGoroutine") = false := by kernel_rfl
theorem c286 : compFun Tryz.prog Tryz.f286 = some a286 := by kernel_rfl
theorem n286 : (Tryz.f286.name == "runtime.NumGoroutine") = false := by kernel_rfl
theorem c287 : compFun Tryz.prog Tryz.f287 = some a287 := by kernel_rfl
theorem n287 : (Tryz.f287.name == "runtime.NumGoroutine") = false := by kernel_rfl
theorem c288 : compFun Tryz.prog Tryz.f288 = some a288 := by kernel_rfl
theorem n288 : (Tryz.f288.name == "runtime.NumGoroutine") = false := by kernel_rfl
theorem c289 : compFun Tryz.prog Tryz.f289 = some a289 := by kernel_rfl
theorem n289 : (Tryz.f289.name == "runtime.NumGoroutine") = false := by kernel_rfl
theorem c290 : compFun Tryz.prog Tryz.f290 = some a290 := by kernel_rfl
theorem n290 : (Tryz.f290.name == "runtime.NumGoroutine") = false := by kernel_rfl
theorem c294 : compFun Tryz.prog Tryz.f294 = some a294 := by kernel_rfl
theorem n294 : (Tryz.f294.name == "runtime.NumGoroutine") = false := by kernel_rfl
theorem c295 : compFun Tryz.prog Tryz.f295 = some a295 := by kernel_rfl
theorem n295 : (Tryz.f295.name == "runtime.NumGoroutine") = false := by kernel_rfl
theorem c297 : compFun Tryz.prog Tryz.f297 = some a297 := by kernel_rfl
theorem n297 : (Tryz.f297.name == "runtime.NumGoroutine") = false := by kernel_rfl
theorem c298 : compFun Tryz.prog Tryz.f298 = some a298 := by kernel_rfl
theorem n298 : (Tryz.f298.name == "runtime.NumGoroutine") = false := by kernel_rfl
theorem c300 : compFun Tryz.prog Tryz.f300 = some a300 := by kernel_rfl
theorem n300 : (Tryz.f300.name == "runtime.NumGoroutine") = false := by kernel_rfl
theorem c302 : compFun Tryz.prog Tryz.f302 = some a302 := by kernel_rfl
theorem n302 : (Tryz.f302.name == "runtime.NumGoroutine") = false := by kernel_rfl
theorem c306 : compFun Tryz.prog Tryz.f306 = some a306 := by kernel_rfl
theorem n306 : (Tryz.f306.name == "runtime.NumGoroutine") = false := by kernel_rfl
theorem c318 : compFun Tryz.prog Tryz.f318 = some a318 := by kernel_rfl
theorem n318 : (Tryz.f318.name == "runtime.NumGoroutine") = false := by kernel_rfl
theorem c319 : compFun Tryz.prog Tryz.f319 = some a319 := by kernel_rfl
theorem n319 : (Tryz.f319.name == "runtime.NumGoroutine") = false := by kernel_rfl
theorem c320 : compFun Tryz.prog Tryz.f320 = some a320 := by kernel_rfl
theorem n320 : (Tryz.f320.name == "runtime.NumGoroutine") = false := by kernel_rfl
theorem c321 : compFun Tryz.prog Tryz.f321 = some a321 := by kernel_rfl
theorem n321 : (Tryz.f321.name == "runtime.NumGoroutine") = false := by kernel_rfl
theorem c324 : compFun Tryz.prog Tryz.f324 = some a324 := by kernel_rfl
theorem n324 : (Tryz.f324.name == "runtime.NumGoroutine") = false := by kernel_rfl
theorem c326 : compFun Tryz.prog Tryz.f326 = some a326 := by kernel_rfl
theorem n326 : (Tryz.f326.name == "runtime.NumGoroutine") = false := by kernel_rfl
theorem c333 : compFun Tryz.prog Tryz.f333 = some a333 := by kernel_rfl
theorem n333 : (Tryz.f333.name == "runtime.NumGoroutine") = false := by kernel_rfl
theorem c347 : compFun Tryz.prog Tryz.f347 = some a347 := by kernel_rfl
theorem n347 : (Tryz.f347.name == "runtime.NumGoroutine") = false := by kernel_rfl
theorem c348 : compFun Tryz.prog Tryz.f348 = some a348 := by kernel_rfl
theorem n348 : (Tryz.f348.name == "runtime.NumGoroutine") = false := by kernel_rfl
theorem c355 : compFun Tryz.prog Tryz.f355 = some a355 := by kernel_rfl
theorem n355 : (Tryz.f355.name == "runtime.NumGoroutine") = false := by kernel_rfl
theorem c356 : compFun Tryz.prog Tryz.f356 = some a356 := by kernel_rfl
theorem n356 : (Tryz.f356.name == "runtime.NumGoroutine") = false := by kernel_rfl
theorem c357 : compFun Tryz.prog Tryz.f357 = some a357 := by kernel_rfl
theorem n357 : (Tryz.f357.name == "runtime.NumGoroutine") = false := by kernel_rfl
theorem c358 : compFun Tryz.prog Tryz.f358 = some a358 := by kernel_rfl
theorem n358 : (Tryz.f358.name == "runtime.NumGoroutine") = false := by kernel_rfl
theorem c359 : compFun Tryz.prog Tryz.f359 = some a359 := by kernel_rfl
theorem n359 : (Tryz.f359.name == "runtime.NumGoroutine") = false := by kernel_rfl
theorem c365 : compFun Tryz.prog Tryz.f365 = some a365 := by kernel_rfl
theorem n365 : (Tryz.f365.name == "runtime.NumGoroutine") = false := by kernel_rfl
theorem c368 : compFun Tryz.prog Tryz.f368 = some a368 := by kernel_rfl
theorem n368 : (Tryz.f368.name == "runtime.NumGoroutine") = false := by kernel_rfl
theorem c369 : compFun Tryz.prog Tryz.f369 = some a369 := by kernel_rfl
theorem n369 : (Tryz.f369.name == "runtime.NumGoroutine") = false := by kernel_rfl
theorem c378 : compFun Tryz.prog Tryz.f378 = some a378 := by kernel_rfl
theorem n378 : (Tryz.f378.name == "runtime.NumGoroutine") = false := by kernel_rfl
theorem c387 : compFun Tryz.prog Tryz.f387 = some a387 := by kernel_rfl
theorem n387 : (Tryz.f387.name == "runtime.NumGoroutine") = false := by kernel_rfl
theorem c388 : compFun Tryz.prog Tryz.f388 = some a388 := by kernel_rfl
theorem n388 : (Tryz.f388.name == "runtime.NumGoroutine") = false := by kernel_rfl
theorem c389 : compFun Tryz.prog Tryz.f389 = some a389 := by kernel_rfl
theorem n389 : (Tryz.f389.name == "runtime.NumGoroutine") = false := by kernel_rfl
theorem c390 : compFun Tryz.prog Tryz.f390 = some a390 := by kernel_rfl
theorem n390 : (Tryz.f390.name == "runtime.NumGoroutine") = false := by kernel_rfl
theorem c397 : compFun Tryz.prog Tryz.f397 = some a397 := by kernel_rfl
theorem n397 : (Tryz.f397.name == "runtime.NumGoroutine") = false := by kernel_rfl
theorem c404 : compFun Tryz.prog Tryz.f404 = some a404 := by kernel_rfl
theorem n404 : (Tryz.f404.name == "runtime.NumGoroutine") = false := by kernel_rfl
theorem c405 : compFun Tryz.prog Tryz.f405 = some a405 := by kernel_rfl
theorem n405 : (Tryz.f405.name == "runtime.NumGoroutine") = false := by kernel_rfl
theorem c406 : compFun Tryz.prog Tryz.f406 = some a406 := by kernel_rfl
theorem n406 : (Tryz.f406.name == "runtime.NumGoroutine") = false := by kernel_rfl
theorem c407 : compFun Tryz.prog Tryz.f407 = some a407 := by kernel_rfl
theorem n407 : (Tryz.f407.name == "runtime.NumGoroutine") = false := by kernel_rfl
theorem c428 : compFun Tryz.prog Tryz.f428 = some a428 := by kernel_rfl
theorem n428 : (Tryz.f428.name == "runtime.NumGoroutine") = false := by kernel_rfl
theorem c437 : compFun Tryz.prog Tryz.f437 = some a437 := by kernel_rfl
theorem n437 : (Tryz.f437.name == "runtime.NumGoroutine") = false := by kernel_rfl
def look : List (Nat × AFun) → Nat → Option AFun
  | [], _ => none
  | (k, a) :: r, f => match Nat.beq k f with | true => some a | false => look r f
def tab : List (Nat × AFun) := [(3, a3), (10, a10), (11, a11), (12, a12), (13, a13), (14, a14), (15, a15), (16, a16), (17, a17), (18, a18), (26, a26), (28, a28), (29, a29), (32, a32), (33, a33), (34, a34), (35, a35), (36, a36), (37, a37), (38, a38), (39, a39), (40, a40), (47, a47), (49, a49), (50, a50), (51, a51), (55, a55), (57, a57), (58, a58), (64, a64), (65, a65), (66, a66), (67, a67), (68, a68), (69, a69), (70, a70), (71, a71), (72, a72), (73, a73), (74, a74), (75, a75), (76, a76), (87, a87), (88, a88), (89, a89), (90, a90), (91, a91), (92, a92), (93, a93), (94, a94), (95, a95), (96, a96), (97, a97), (98, a98), (99, a99), (101, a101), (102, a102), (105, a105), (106, a106), (110, a110), (111, a111), (112, a112), (113, a113), (114, a114), (115, a115), (116, a116), (117, a117), (129, a129), (130, a130), (131, a131), (132, a132), (133, a133), (134, a134), (135, a135), (136, a136), (137, a137), (142, a142), (158, a158), (159, a159), (162, a162), (163, a163), (165, a165), (166, a166), (167, a167), (168, a168), (169, a169), (171, a171), (172, a172), (173, a173), (174, a174), (175, a175), (176, a176), (178, a178), (179, a179), (181, a181), (184, a184), (190, a190), (191, a191), (193, a193), (194, a194), (195, a195), (196, a196), (210, a210), (211, a211), (212, a212), (215, a215), (216, a216), (217, a217), (218, a218), (219, a219), (222, a222), (225, a225), (227, a227), (239, a239), (240, a240), (243, a243), (244, a244), (247, a247), (248, a248), (249, a249), (252, a252), (254, a254), (256, a256), (257, a257), (258, a258), (262, a262), (263, a263), (264, a264), (265, a265), (266, a266), (267, a267), (270, a270), (272, a272), (274, a274), (275, a275), (276, a276), (277, a277), (286, a286), (287, a287), (288, a288), (289, a289), (290, a290), (294, a294), (295, a295), (297, a297), (298, a298), (300, a300), (302, a302), (306, a306), (318, a318), (319, a319), (320, a320), (321, a321), (324, a324), (326, a326), (333, a333), (347, a347), (348, a348), (355, a355), (356, a356), (357, a357), (358, a358), (359, a359), (365, a365), (368, a368), (369, a369), (378, a378), (387, a387), (388, a388), (389, a389), (390, a390), (397, a397), (404, a404), (405, a405), (406, a406), (407, a407), (428, a428), (437, a437)]
def EntryOk (P : Program) (x : Nat × AFun) : Prop := ∃ fn, P.funcs[x.1]? = some fn ∧ compFun P fn = some x.2 ∧ (fn.name == "runtime.NumGoroutine") = false
theorem funs_of_all {P : Program} : ∀ {l : List (Nat × AFun)}, (∀ x ∈ l, EntryOk P x) → FunsOk P (look l)
  | [], _, f, a, e => by cases e
  | (k, b) :: r, h, f, a, e => by
    unfold look at e
    split at e
    · rename_i hk
      have : k = f := Nat.eq_of_beq_eq_true hk
      subst this
      cases e
      exact h _ (List.mem_cons_self ..)
    · exact funs_of_all (fun x hx => h x (List.mem_cons_of_mem _ hx)) f a e
theorem tl178 : ∀ x ∈ ([] : List (Nat × AFun)), EntryOk Tryz.prog x := fun x h => by cases h
def t177 : List (Nat × AFun) := (437, a437) :: []
theorem tl177 : ∀ x ∈ t177, EntryOk Tryz.prog x := List.forall_mem_cons.2 ⟨⟨_, Tryz.func437, c437, n437⟩, tl178⟩
def t176 : List (Nat × AFun) := (428, a428) :: t177
theorem tl176 : ∀ x ∈ t176, EntryOk Tryz.prog x := List.forall_mem_cons.2 ⟨⟨_, Tryz.func428, c428, n428⟩, tl177⟩
def t175 : List (Nat × AFun) := (407, a407) :: t176
theorem tl175 : ∀ x ∈ t175, EntryOk Tryz.prog x := List.forall_mem_cons.2 ⟨⟨_, Tryz.func407, c407, n407⟩, tl176⟩
def t174 : List (Nat × AFun) := (406, a406) :: t175
theorem tl174 : ∀ x ∈ t174, EntryOk Tryz.prog x := List.forall_mem_cons.2 ⟨⟨_, Tryz.func406, c406, n406⟩, tl175⟩
def t173 : List (Nat × AFun) := (405, a405) :: t174
theorem tl173 : ∀ x ∈ t173, EntryOk Tryz.prog x := List.forall_mem_cons.2 ⟨⟨_, Tryz.func405, c405, n405⟩, tl174⟩
def t172 : List (Nat × AFun) := (404, a404) :: t173
theorem tl172 : ∀ x ∈ t172, EntryOk Tryz.prog x := List.forall_mem_cons.2 ⟨⟨_, Tryz.func404, c404, n404⟩, tl173⟩
def t171 : List (Nat × AFun) := (397, a397) :: t172
theorem tl171 : ∀ x ∈ t171, EntryOk Tryz.prog x := List.forall_mem_cons.2 ⟨⟨_, Tryz.func397, c397, n397⟩, tl172⟩
def t170 : List (Nat × AFun) := (390, a390) :: t171
theorem tl170 : ∀ x ∈ t170, EntryOk Tryz.prog x := List.forall_mem_cons.2 ⟨⟨_, Tryz.func390, c390, n390⟩, tl171⟩
def t169 : List (Nat × AFun) := (389, a389) :: t170
theorem tl169 : ∀ x ∈ t169, EntryOk Tryz.prog x := List.forall_mem_cons.2 ⟨⟨_, Tryz.func389, c389, n389⟩, tl170⟩
def t168 : List (Nat × AFun) := (388, a388) :: t169
theorem tl168 : ∀ x ∈ t168, EntryOk Tryz.prog x := List.forall_mem_cons.2 ⟨⟨_, Tryz.func388, c388, n388⟩, tl169⟩
def t167 : List (Nat × AFun) := (387, a387) :: t168
theorem tl167 : ∀ x ∈ t167, EntryOk Tryz.prog x := List.forall_mem_cons.2 ⟨⟨_, Tryz.func387, c387, n387⟩, tl168⟩
def t166 : List (Nat × AFun) := (378, a378) :: t167
theorem tl166 : ∀ x ∈ t166, EntryOk Tryz.prog x := List.forall_mem_cons.2 ⟨⟨_, Tryz.func378, c378, n378⟩, tl167⟩
def t165 : List (Nat × AFun) := (369, a369) :: t166
theorem tl165 : ∀ x ∈ t165, EntryOk Tryz.prog x := List.forall_mem_cons.2 ⟨⟨_, Tryz.func369, c369, n369⟩, tl166⟩
def t164 : List (Nat × AFun) := (368, a368) :: t165
theorem tl164 : ∀ x ∈ t164, EntryOk Tryz.prog x := List.forall_mem_cons.2 ⟨⟨_, Tryz.func368, c368, n368⟩, tl165⟩
def t163 : List (Nat × AFun) := (365, a365) :: t164
theorem tl163 : ∀ x ∈ t163, EntryOk Tryz.prog x := List.forall_mem_cons.2 ⟨⟨_, Tryz.func365, c365, n365⟩, tl164⟩
def t162 : List (Nat × AFun) := (359, a359) :: t163
theorem tl162 : ∀ x ∈ t162, EntryOk Tryz.prog x := List.forall_mem_cons.2 ⟨⟨_, Tryz.func359, c359, n359⟩, tl163⟩
def t161 : List (Nat × AFun) := (358, a358) :: t162
theorem tl161 : ∀ x ∈ t161, EntryOk Tryz.prog x := List.forall_mem_cons.2 ⟨⟨_, Tryz.func358, c358, n358⟩, tl162⟩
def t160 : List (Nat × AFun) := (357, a357) :: t161
theorem tl160 : ∀ x ∈ t160, EntryOk Tryz.prog x := List.forall_mem_cons.2 ⟨⟨_, Tryz.func357, c357, n357⟩, tl161⟩
def t159 : List (Nat × AFun) := (356, a356) :: t160
theorem tl159 : ∀ x ∈ t159, EntryOk Tryz.prog x := List.forall_mem_cons.2 ⟨⟨_, Tryz.func356, c356, n356⟩, tl160⟩
def t158 : List (Nat × AFun) := (355, a355) :: t159
theorem tl158 : ∀ x ∈ t158, EntryOk Tryz.prog x := List.forall_mem_cons.2 ⟨⟨_, Tryz.func355, c355, n355⟩, tl159⟩
def t157 : List (Nat × AFun) := (348, a348) :: t158
theorem tl157 : ∀ x ∈ t157, EntryOk Tryz.prog x := List.forall_mem_cons.2 ⟨⟨_, Tryz.func348, c348, n348⟩, tl158⟩
def t156 : List (Nat × AFun) := (347, a347) :: t157
theorem tl156 : ∀ x ∈ t156, EntryOk Tryz.prog x := List.forall_mem_cons.2 ⟨⟨_, Tryz.func347, c347, n347⟩, tl157⟩
def t155 : List (Nat × AFun) := (333, a333) :: t156
theorem tl155 : ∀ x ∈ t155, EntryOk Tryz.prog x := List.forall_mem_cons.2 ⟨⟨_, Tryz.func333, c333, n333⟩, tl156⟩
def t154 : List (Nat × AFun) := (326, a326) :: t155
theorem tl154 : ∀ x ∈ t154, EntryOk Tryz.prog x := List.forall_mem_cons.2 ⟨⟨_, Tryz.func326, c326, n326⟩, tl155⟩
def t153 : List (Nat × AFun) := (324, a324) :: t154
theorem tl153 : ∀ x ∈ t153, EntryOk Tryz.prog x := List.forall_mem_cons.2 ⟨⟨_, Tryz.func324, c324, n324⟩, tl154⟩
def t152 : List (Nat × AFun) := (321, a321) :: t153
theorem tl152 : ∀ x ∈ t152, EntryOk Tryz.prog x := List.forall_mem_cons.2 ⟨⟨_, Tryz.func321, c321, n321⟩, tl153⟩
def t151 : List (Nat × AFun) := (320, a320) :: t152
theorem tl151 : ∀ x ∈ t151, EntryOk Tryz.prog x := List.forall_mem_cons.2 ⟨⟨_, Tryz.func320, c320, n320⟩, tl152⟩
def t150 : List (Nat × AFun) := (319, a319) :: t151
theorem tl150 : ∀ x ∈ t150, EntryOk Tryz.prog x := List.forall_mem_cons.2 ⟨⟨_, Tryz.func319, c319, n319⟩, tl151⟩
def t149 : List (Nat × AFun) := (318, a318) :: t150
theorem tl149 : ∀ x ∈ t149, EntryOk Tryz.prog x := List.forall_mem_cons.2 ⟨⟨_, Tryz.func318, c318, n318⟩, tl150⟩
def t148 : List (Nat × AFun) := (306, a306) :: t149
theorem tl148 : ∀ x ∈ t148, EntryOk Tryz.prog x := List.forall_mem_cons.2 ⟨⟨_, Tryz.func306, c306, n306⟩, tl149⟩
def t147 : List (Nat × AFun) := (302, a302) :: t148
theorem tl147 : ∀ x ∈ t147, EntryOk Tryz.prog x := List.forall_mem_cons.2 ⟨⟨_, Tryz.func302, c302, n302⟩, tl148⟩
def t146 : List (Nat × AFun) := (300, a300) :: t147
theorem tl146 : ∀ x ∈ t146, EntryOk Tryz.prog x := List.forall_mem_cons.2 ⟨⟨_, Tryz.func300, c300, n300⟩, tl147⟩
def t145 : List (Nat × AFun) := (298, a298) :: t146
theorem tl145 : ∀ x ∈ t145, EntryOk Tryz.prog x := List.forall_mem_cons.2 ⟨⟨_, Tryz.func298, c298, n298⟩, tl146⟩
def t144 : List (Nat × AFun) := (297, a297) :: t145
theorem tl144 : ∀ x ∈ t144, EntryOk Tryz.prog x := List.forall_mem_cons.2 ⟨⟨_, Tryz.func297, c297, n297⟩, tl145⟩
def t143 : List (Nat × AFun) := (295, a295) :: t144
theorem tl143 : ∀ x ∈ t143, EntryOk Tryz.prog x := List.forall_mem_cons.2 ⟨⟨_, Tryz.func295, c295, n295⟩, tl144⟩
def t142 : List (Nat × AFun) := (294, a294) :: t143
theorem tl142 : ∀ x ∈ t142, EntryOk Tryz.prog x := List.forall_mem_cons.2 ⟨⟨_, Tryz.func294, c294, n294⟩, tl143⟩
def t141 : List (Nat × AFun) := (290, a290) :: t142
theorem tl141 : ∀ x ∈ t141, EntryOk Tryz.prog x := List.forall_mem_cons.2 ⟨⟨_, Tryz.func290, c290, n290⟩, tl142⟩
def t140 : List (Nat × AFun) := (289, a289) :: t141
theorem tl140 : ∀ x ∈ t140, EntryOk Tryz.prog x := List.forall_mem_cons.2 ⟨⟨_, Tryz.func289, c289, n289⟩, tl141⟩
def t139 : List (Nat × AFun) := (288, a288) :: t140
theorem tl139 : ∀ x ∈ t139, EntryOk Tryz.prog x := List.forall_mem_cons.2 ⟨⟨_, Tryz.func288, c288, n288⟩, tl140⟩
def t138 : List (Nat × AFun) := (287, a287) :: t139
theorem tl138 : ∀ x ∈ t138, EntryOk Tryz.prog x := List.forall_mem_cons.2 ⟨⟨_, Tryz.func287, c287, n287⟩, tl139⟩
def t137 : List (Nat × AFun) := (286, a286) :: t138
theorem tl137 : ∀ x ∈ t137, EntryOk Tryz.prog x := List.forall_mem_cons.2 ⟨⟨_, Tryz.func286, c286, n286⟩, tl138⟩
def t136 : List (Nat × AFun) := (277, a277) :: t137
theorem tl136 : ∀ x ∈ t136, EntryOk Tryz.prog x := List.forall_mem_cons.2 ⟨⟨_, Tryz.func277, c277, n277⟩, tl137⟩
def t135 : List (Nat × AFun) := (276, a276) :: t136
theorem tl135 : ∀ x ∈ t135, EntryOk Tryz.prog x := List.forall_mem_cons.2 ⟨⟨_, Tryz.func276, c276, n276⟩, tl136⟩
def t134 : List (Nat × AFun) := (275, a275) :: t135
theorem tl134 : ∀ x ∈ t134, EntryOk Tryz.prog x := List.forall_mem_cons.2 ⟨⟨_, Tryz.func275, c275, n275⟩, tl135⟩
def t133 : List (Nat × AFun) := (274, a274) :: t134
theorem tl133 : ∀ x ∈ t133, EntryOk Tryz.prog x := List.forall_mem_cons.2 ⟨⟨_, Tryz.func274, c274, n274⟩, tl134⟩
def t132 : List (Nat × AFun) := (272, a272) :: t133
theorem tl132 : ∀ x ∈ t132, EntryOk Tryz.prog x := List.forall_mem_cons.2 ⟨⟨_, Tryz.func272, c272, n272⟩, tl133⟩
def t131 : List (Nat × AFun) := (270, a270) :: t132
theorem tl131 : ∀ x ∈ t131, EntryOk Tryz.prog x := List.forall_mem_cons.2 ⟨⟨_, Tryz.func270, c270, n270⟩, tl132⟩
def t130 : List (Nat × AFun) := (267, a267) :: t131
theorem tl130 : ∀ x ∈ t130, EntryOk Tryz.prog x := List.forall_mem_cons.2 ⟨⟨_, Tryz.func267, c267, n267⟩, tl131⟩
def t129 : List (Nat × AFun) := (266, a266) :: t130
theorem tl129 : ∀ x ∈ t129, EntryOk Tryz.prog x := List.forall_mem_cons.2 ⟨⟨_, Tryz.func266, c266, n266⟩, tl130⟩
def t128 : List (Nat × AFun) := (265, a265) :: t129
theorem tl128 : ∀ x ∈ t128, EntryOk Tryz.prog x := List.forall_mem_cons.2 ⟨⟨_, Tryz.func265, c265, n265⟩, tl129⟩
def t127 : List (Nat × AFun) := (264, a264) :: t128
theorem tl127 : ∀ x ∈ t127, EntryOk Tryz.prog x := List.forall_mem_cons.2 ⟨⟨_, Tryz.func264, c264, n264⟩, tl128⟩
def t126 : List (Nat × AFun) := (263, a263) :: t127
theorem tl126 : ∀ x ∈ t126, EntryOk Tryz.prog x := List.forall_mem_cons.2 ⟨⟨_, Tryz.func263, c263, n263⟩, tl127⟩
def t125 : List (Nat × AFun) := (262, a262) :: t126
theorem tl125 : ∀ x ∈ t125, EntryOk Tryz.prog x := List.forall_mem_cons.2 ⟨⟨_, Tryz.func262, c262, n262⟩, tl126⟩
def t124 : List (Nat × AFun) := (258, a258) :: t125
theorem tl124 : ∀ x ∈ t124, EntryOk Tryz.prog x := List.forall_mem_cons.2 ⟨⟨_, Tryz.func258, c258, n258⟩, tl125⟩
def t123 : List (Nat × AFun) := (257, a257) :: t124
theorem tl123 : ∀ x ∈ t123, EntryOk Tryz.prog x := List.forall_mem_cons.2 ⟨⟨_, Tryz.func257, c257, n257⟩, tl124⟩
def t122 : List (Nat × AFun) := (256, a256) :: t123
theorem tl122 : ∀ x ∈ t122, EntryOk Tryz.prog x := List.forall_mem_cons.2 ⟨⟨_, Tryz.func256, c256, n256⟩, tl123⟩
def t121 : List (Nat × AFun) := (254, a254) :: t122
theorem tl121 : ∀ x ∈ t121, EntryOk Tryz.prog x := List.forall_mem_cons.2 ⟨⟨_, Tryz.func254, c254, n254⟩, tl122⟩
def t120 : List (Nat × AFun) := (252, a252) :: t121
theorem tl120 : ∀ x ∈ t120, EntryOk Tryz.prog x := List.forall_mem_cons.2 ⟨⟨_, Tryz.func252, c252, n252⟩, tl121⟩
def t119 : List (Nat × AFun) := (249, a249) :: t120
theorem tl119 : ∀ x ∈ t119, EntryOk Tryz.prog x := List.forall_mem_cons.2 ⟨⟨_, Tryz.func249, c249, n249⟩, tl120⟩
def t118 : List (Nat × AFun) := (248, a248) :: t119
theorem tl118 : ∀ x ∈ t118, EntryOk Tryz.prog x := List.forall_mem_cons.2 ⟨⟨_, Tryz.func248, c248, n248⟩, tl119⟩
def t117 : List (Nat × AFun) := (247, a247) :: t118
theorem tl117 : ∀ x ∈ t117, EntryOk Tryz.prog x := List.forall_mem_cons.2 ⟨⟨_, Tryz.func247, c247, n247⟩, tl118⟩
def t116 : List (Nat × AFun) := (244, a244) :: t117
theorem tl116 : ∀ x ∈ t116, EntryOk Tryz.prog x := List.forall_mem_cons.2 ⟨⟨_, Tryz.func244, c244, n244⟩, tl117⟩
def t115 : List (Nat × AFun) := (243, a243) :: t116
theorem tl115 : ∀ x ∈ t115, EntryOk Tryz.prog x := List.forall_mem_cons.2 ⟨⟨_, Tryz.func243, c243, n243⟩, tl116⟩
def t114 : List (Nat × AFun) := (240, a240) :: t115
theorem tl114 : ∀ x ∈ t114, EntryOk Tryz.prog x := List.forall_mem_cons.2 ⟨⟨_, Tryz.func240, c240, n240⟩, tl115⟩
def t113 : List (Nat × AFun) := (239, a239) :: t114
theorem tl113 : ∀ x ∈ t113, EntryOk Tryz.prog x := List.forall_mem_cons.2 ⟨⟨_, Tryz.func239, c239, n239⟩, tl114⟩
def t112 : List (Nat × AFun) := (227, a227) :: t113
theorem tl112 : ∀ x ∈ t112, EntryOk Tryz.prog x := List.forall_mem_cons.2 ⟨⟨_, Tryz.func227, c227, n227⟩, tl113⟩
def t111 : List (Nat × AFun) := (225, a225) :: t112
theorem tl111 : ∀ x ∈ t111, EntryOk Tryz.prog x := List.forall_mem_cons.2 ⟨⟨_, Tryz.func225, c225, n225⟩, tl112⟩
def t110 : List (Nat × AFun) := (222, a222) :: t111
theorem tl110 : ∀ x ∈ t110, EntryOk Tryz.prog x := List.forall_mem_cons.2 ⟨⟨_, Tryz.func222, c222, n222⟩, tl111⟩
def t109 : List (Nat × AFun) := (219, a219) :: t110
theorem tl109 : ∀ x ∈ t109, EntryOk Tryz.prog x := List.forall_mem_cons.2 ⟨⟨_, Tryz.func219, c219, n219⟩, tl110⟩
def t108 : List (Nat × AFun) := (218, a218) :: t109
theorem tl108 : ∀ x ∈ t108, EntryOk Tryz.prog x := List.forall_mem_cons.2 ⟨⟨_, Tryz.func218, c218, n218⟩, tl109⟩
def t107 : List (Nat × AFun) := (217, a217) :: t108
theorem tl107 : ∀ x ∈ t107, EntryOk Tryz.prog x := List.forall_mem_cons.2 ⟨⟨_, Tryz.func217, c217, n217⟩, tl108⟩
def t106 : List (Nat × AFun) := (216, a216) :: t107
theorem tl106 : ∀ x ∈ t106, EntryOk Tryz.prog x := List.forall_mem_cons.2 ⟨⟨_, Tryz.func216, c216, n216⟩, tl107⟩
def t105 : List (Nat × AFun) := (215, a215) :: t106
theorem tl105 : ∀ x ∈ t105, EntryOk Tryz.prog x := List.forall_mem_cons.2 ⟨⟨_, Tryz.func215, c215, n215⟩, tl106⟩
def t104 : List (Nat × AFun) := (212, a212) :: t105
theorem tl104 : ∀ x ∈ t104, EntryOk Tryz.prog x := List.forall_mem_cons.2 ⟨⟨_, Tryz.func212, c212, n212⟩, tl105⟩
def t103 : List (Nat × AFun) := (211, a211) :: t104
theorem tl103 : ∀ x ∈ t103, EntryOk Tryz.prog x := List.forall_mem_cons.2 ⟨⟨_, Tryz.func211, c211, n211⟩, tl104⟩
def t102 : List (Nat × AFun) := (210, a210) :: t103
theorem tl102 : ∀ x ∈ t102, EntryOk Tryz.prog x := List.forall_mem_cons.2 ⟨⟨_, Tryz.func210, c210, n210⟩, tl103⟩
def t101 : List (Nat × AFun) := (196, a196) :: t102
theorem tl101 : ∀ x ∈ t101, EntryOk Tryz.prog x := List.forall_mem_cons.2 ⟨⟨_, Tryz.func196, c196, n196⟩, tl102⟩
def t100 : List (Nat × AFun) := (195, a195) :: t101
theorem tl100 : ∀ x ∈ t100, EntryOk Tryz.prog x := List.forall_mem_cons.2 ⟨⟨_, Tryz.func195, c195, n195⟩, tl101⟩
def t99 : List (Nat × AFun) := (194, a194) :: t100
theorem tl99 : ∀ x ∈ t99, EntryOk Tryz.prog x := List.forall_mem_cons.2 ⟨⟨_, Tryz.func194, c194, n194⟩, tl100⟩
def t98 : List (Nat × AFun) := (193, a193) :: t99
theorem tl98 : ∀ x ∈ t98, EntryOk Tryz.prog x := List.forall_mem_cons.2 ⟨⟨_, Tryz.func193, c193, n193⟩, tl99⟩
def t97 : List (Nat × AFun) := (191, a191) :: t98
theorem tl97 : ∀ x ∈ t97, EntryOk Tryz.prog x := List.forall_mem_cons.2 ⟨⟨_, Tryz.func191, c191, n191⟩, tl98⟩
def t96 : List (Nat × AFun) := (190, a190) :: t97
theorem tl96 : ∀ x ∈ t96, EntryOk Tryz.prog x := List.forall_mem_cons.2 ⟨⟨_, Tryz.func190, c190, n190⟩, tl97⟩
def t95 : List (Nat × AFun) := (184, a184) :: t96
theorem tl95 : ∀ x ∈ t95, EntryOk Tryz.prog x := List.forall_mem_cons.2 ⟨⟨_, Tryz.func184, c184, n184⟩, tl96⟩
def t94 : List (Nat × AFun) := (181, a181) :: t95
theorem tl94 : ∀ x ∈ t94, EntryOk Tryz.prog x := List.forall_mem_cons.2 ⟨⟨_, Tryz.func181, c181, n181⟩, tl95⟩
def t93 : List (Nat × AFun) := (179, a179) :: t94
theorem tl93 : ∀ x ∈ t93, EntryOk Tryz.prog x := List.forall_mem_cons.2 ⟨⟨_, Tryz.func179, c179, n179⟩, tl94⟩
def t92 : List (Nat × AFun) := (178, a178) :: t93
theorem tl92 : ∀ x ∈ t92, EntryOk Tryz.prog x := List.forall_mem_cons.2 ⟨⟨_, Tryz.func178, c178, n178⟩, tl93⟩
def t91 : List (Nat × AFun) := (176, a176) :: t92
theorem tl91 : ∀ x ∈ t91, EntryOk Tryz.prog x := List.forall_mem_cons.2 ⟨⟨_, Tryz.func176, c176, n176⟩, tl92⟩
def t90 : List (Nat × AFun) := (175, a175) :: t91
theorem tl90 : ∀ x ∈ t90, EntryOk Tryz.prog x := List.forall_mem_cons.2 ⟨⟨_, Tryz.func175, c175, n175⟩, tl91⟩
def t89 : List (Nat × AFun) := (174, a174) :: t90
theorem tl89 : ∀ x ∈ t89, EntryOk Tryz.prog x := List.forall_mem_cons.2 ⟨⟨_, Tryz.func174, c174, n174⟩, tl90⟩
def t88 : List (Nat × AFun) := (173, a173) :: t89
theorem tl88 : ∀ x ∈ t88, EntryOk Tryz.prog x := List.forall_mem_cons.2 ⟨⟨_, Tryz.func173, c173, n173⟩, tl89⟩
def t87 : List (Nat × AFun) := (172, a172) :: t88
theorem tl87 : ∀ x ∈ t87, EntryOk Tryz.prog x := List.forall_mem_cons.2 ⟨⟨_, Tryz.func172, c172, n172⟩, tl88⟩
def t86 : List (Nat × AFun) := (171, a171) :: t87
theorem tl86 : ∀ x ∈ t86, EntryOk Tryz.prog x := List.forall_mem_cons.2 ⟨⟨_, Tryz.func171, c171, n171⟩, tl87⟩
def t85 : List (Nat × AFun) := (169, a169) :: t86
theorem tl85 : ∀ x ∈ t85, EntryOk Tryz.prog x := List.forall_mem_cons.2 ⟨⟨_, Tryz.func169, c169, n169⟩, tl86⟩
def t84 : List (Nat × AFun) := (168, a168) :: t85
theorem tl84 : ∀ x ∈ t84, EntryOk Tryz.prog x := List.forall_mem_cons.2 ⟨⟨_, Tryz.func168, c168, n168⟩, tl85⟩
def t83 : List (Nat × AFun) := (167, a167) :: t84
theorem tl83 : ∀ x ∈ t83, EntryOk Tryz.prog x := List.forall_mem_cons.2 ⟨⟨_, Tryz.func167, c167, n167⟩, tl84⟩
def t82 : List (Nat × AFun) := (166, a166) :: t83
theorem tl82 : ∀ x ∈ t82, EntryOk Tryz.prog x := List.forall_mem_cons.2 ⟨⟨_, Tryz.func166, c166, n166⟩, tl83⟩
def t81 : List (Nat × AFun) := (165, a165) :: t82
theorem tl81 : ∀ x ∈ t81, EntryOk Tryz.prog x := List.forall_mem_cons.2 ⟨⟨_, Tryz.func165, c165, n165⟩, tl82⟩
def t80 : List (Nat × AFun) := (163, a163) :: t81
theorem tl80 : ∀ x ∈ t80, EntryOk Tryz.prog x := List.forall_mem_cons.2 ⟨⟨_, Tryz.func163, c163, n163⟩, tl81⟩
def t79 : List (Nat × AFun) := (162, a162) :: t80
theorem tl79 : ∀ x ∈ t79, EntryOk Tryz.prog x := List.forall_mem_cons.2 ⟨⟨_, Tryz.func162, c162, n162⟩, tl80⟩
def t78 : List (Nat × AFun) := (159, a159) :: t79
theorem tl78 : ∀ x ∈ t78, EntryOk Tryz.prog x := List.forall_mem_cons.2 ⟨⟨_, Tryz.func159, c159, n159⟩, tl79⟩
def t77 : List (Nat × AFun) := (158, a158) :: t78
theorem tl77 : ∀ x ∈ t77, EntryOk Tryz.prog x := List.forall_mem_cons.2 ⟨⟨_, Tryz.func158, c158, n158⟩, tl78⟩
def t76 : List (Nat × AFun) := (142, a142) :: t77
theorem tl76 : ∀ x ∈ t76, EntryOk Tryz.prog x := List.forall_mem_cons.2 ⟨⟨_, Tryz.func142, c142, n142⟩, tl77⟩
def t75 : List (Nat × AFun) := (137, a137) :: t76
theorem tl75 : ∀ x ∈ t75, EntryOk Tryz.prog x := List.forall_mem_cons.2 ⟨⟨_, Tryz.func137, c137, n137⟩, tl76⟩
def t74 : List (Nat × AFun) := (136, a136) :: t75
theorem tl74 : ∀ x ∈ t74, EntryOk Tryz.prog x := List.forall_mem_cons.2 ⟨⟨_, Tryz.func136, c136, n136⟩, tl75⟩
def t73 : List (Nat × AFun) := (135, a135) :: t74
theorem tl73 : ∀ x ∈ t73, EntryOk Tryz.prog x := List.forall_mem_cons.2 ⟨⟨_, Tryz.func135, c135, n135⟩, tl74⟩
def t72 : List (Nat × AFun) := (134, a134) :: t73
theorem tl72 : ∀ x ∈ t72, EntryOk Tryz.prog x := List.forall_mem_cons.2 ⟨⟨_, Tryz.func134, c134, n134⟩, tl73⟩
def t71 : List (Nat × AFun) := (133, a133) :: t72
theorem tl71 : ∀ x ∈ t71, EntryOk Tryz.prog x := List.forall_mem_cons.2 ⟨⟨_, Tryz.func133, c133, n133⟩, tl72⟩
def t70 : List (Nat × AFun) := (132, a132) :: t71
theorem tl70 : ∀ x ∈ t70, EntryOk Tryz.prog x := List.forall_mem_cons.2 ⟨⟨_, Tryz.func132, c132, n132⟩, tl71⟩
def t69 : List (Nat × AFun) := (131, a131) :: t70
theorem tl69 : ∀ x ∈ t69, EntryOk Tryz.prog x := List.forall_mem_cons.2 ⟨⟨_, Tryz.func131, c131, n131⟩, tl70⟩
def t68 : List (Nat × AFun) := (130, a130) :: t69
theorem tl68 : ∀ x ∈ t68, EntryOk Tryz.prog x := List.forall_mem_cons.2 ⟨⟨_, Tryz.func130, c130, n130⟩, tl69⟩
def t67 : List (Nat × AFun) := (129, a129) :: t68
theorem tl67 : ∀ x ∈ t67, EntryOk Tryz.prog x := List.forall_mem_cons.2 ⟨⟨_, Tryz.func129, c129, n129⟩, tl68⟩
def t66 : List (Nat × AFun) := (117, a117) :: t67
theorem tl66 : ∀ x ∈ t66, EntryOk Tryz.prog x := List.forall_mem_cons.2 ⟨⟨_, Tryz.func117, c117, n117⟩, tl67⟩
def t65 : List (Nat × AFun) := (116, a116) :: t66
theorem tl65 : ∀ x ∈ t65, EntryOk Tryz.prog x := List.forall_mem_cons.2 ⟨⟨_, Tryz.func116, c116, n116⟩, tl66⟩
def t64 : List (Nat × AFun) := (115, a115) :: t65
theorem tl64 : ∀ x ∈ t64, EntryOk Tryz.prog x := List.forall_mem_cons.2 ⟨⟨_, Tryz.func115, c115, n115⟩, tl65⟩
def t63 : List (Nat × AFun) := (114, a114) :: t64
theorem tl63 : ∀ x ∈ t63, EntryOk Tryz.prog x := List.forall_mem_cons.2 ⟨⟨_, Tryz.func114, c114, n114⟩, tl64⟩
def t62 : List (Nat × AFun) := (113, a113) :: t63
theorem tl62 : ∀ x ∈ t62, EntryOk Tryz.prog x := List.forall_mem_cons.2 ⟨⟨_, Tryz.func113, c113, n113⟩, tl63⟩
def t61 : List (Nat × AFun) := (112, a112) :: t62
theorem tl61 : ∀ x ∈ t61, EntryOk Tryz.prog x := List.forall_mem_cons.2 ⟨⟨_, Tryz.func112, c112, n112⟩, tl62⟩
def t60 : List (Nat × AFun) := (111, a111) :: t61
theorem tl60 : ∀ x ∈ t60, EntryOk Tryz.prog x := List.forall_mem_cons.2 ⟨⟨_, Tryz.func111, c111, n111⟩, tl61⟩
def t59 : List (Nat × AFun) := (110, a110) :: t60
theorem tl59 : ∀ x ∈ t59, EntryOk Tryz.prog x := List.forall_mem_cons.2 ⟨⟨_, Tryz.func110, c110, n110⟩, tl60⟩
def t58 : List (Nat × AFun) := (106, a106) :: t59
theorem tl58 : ∀ x ∈ t58, EntryOk Tryz.prog x := List.forall_mem_cons.2 ⟨⟨_, Tryz.func106, c106, n106⟩, tl59⟩
def t57 : List (Nat × AFun) := (105, a105) :: t58
theorem tl57 : ∀ x ∈ t57, EntryOk Tryz.prog x := List.forall_mem_cons.2 ⟨⟨_, Tryz.func105, c105, n105⟩, tl58⟩
def t56 : List (Nat × AFun) := (102, a102) :: t57
theorem tl56 : ∀ x ∈ t56, EntryOk Tryz.prog x := List.forall_mem_cons.2 ⟨⟨_, Tryz.func102, c102, n102⟩, tl57⟩
def t55 : List (Nat × AFun) := (101, a101) :: t56
theorem tl55 : ∀ x ∈ t55, EntryOk Tryz.prog x := List.forall_mem_cons.2 ⟨⟨_, Tryz.func101, c101, n101⟩, tl56⟩
def t54 : List (Nat × AFun) := (99, a99) :: t55
theorem tl54 : ∀ x ∈ t54, EntryOk Tryz.prog x := List.forall_mem_cons.2 ⟨⟨_, Tryz.func99, c99, n99⟩, tl55⟩
def t53 : List (Nat × AFun) := (98, a98) :: t54
theorem tl53 : ∀ x ∈ t53, EntryOk Tryz.prog x := List.forall_mem_cons.2 ⟨⟨_, Tryz.func98, c98, n98⟩, tl54⟩
def t52 : List (Nat × AFun) := (97, a97) :: t53
theorem tl52 : ∀ x ∈ t52, EntryOk Tryz.prog x := List.forall_mem_cons.2 ⟨⟨_, Tryz.func97, c97, n97⟩, tl53⟩
def t51 : List (Nat × AFun) := (96, a96) :: t52
theorem tl51 : ∀ x ∈ t51, EntryOk Tryz.prog x := List.forall_mem_cons.2 ⟨⟨_, Tryz.func96, c96, n96⟩, tl52⟩
def t50 : List (Nat × AFun) := (95, a95) :: t51
theorem tl50 : ∀ x ∈ t50, EntryOk Tryz.prog x := List.forall_mem_cons.2 ⟨⟨_, Tryz.func95, c95, n95⟩, tl51⟩
def t49 : List (Nat × AFun) := (94, a94) :: t50
theorem tl49 : ∀ x ∈ t49, EntryOk Tryz.prog x := List.forall_mem_cons.2 ⟨⟨_, Tryz.func94, c94, n94⟩, tl50⟩
def t48 : List (Nat × AFun) := (93, a93) :: t49
theorem tl48 : ∀ x ∈ t48, EntryOk Tryz.prog x := List.forall_mem_cons.2 ⟨⟨_, Tryz.func93, c93, n93⟩, tl49⟩
def t47 : List (Nat × AFun) := (92, a92) :: t48
theorem tl47 : ∀ x ∈ t47, EntryOk Tryz.prog x := List.forall_mem_cons.2 ⟨⟨_, Tryz.func92, c92, n92⟩, tl48⟩
def t46 : List (Nat × AFun) := (91, a91) :: t47
theorem tl46 : ∀ x ∈ t46, EntryOk Tryz.prog x := List.forall_mem_cons.2 ⟨⟨_, Tryz.func91, c91, n91⟩, tl47⟩
def t45 : List (Nat × AFun) := (90, a90) :: t46
theorem tl45 : ∀ x ∈ t45, EntryOk Tryz.prog x := List.forall_mem_cons.2 ⟨⟨_, Tryz.func90, c90, n90⟩, tl46⟩
def t44 : List (Nat × AFun) := (89, a89) :: t45
theorem tl44 : ∀ x ∈ t44, EntryOk Tryz.prog x := List.forall_mem_cons.2 ⟨⟨_, Tryz.func89, c89, n89⟩, tl45⟩
def t43 : List (Nat × AFun) := (88, a88) :: t44
theorem tl43 : ∀ x ∈ t43, EntryOk Tryz.prog x := List.forall_mem_cons.2 ⟨⟨_, Tryz.func88, c88, n88⟩, tl44⟩
def t42 : List (Nat × AFun) := (87, a87) :: t43
theorem tl42 : ∀ x ∈ t42, EntryOk Tryz.prog x := List.forall_mem_cons.2 ⟨⟨_, Tryz.func87, c87, n87⟩, tl43⟩
def t41 : List (Nat × AFun) := (76, a76) :: t42
theorem tl41 : ∀ x ∈ t41, EntryOk Tryz.prog x := List.forall_mem_cons.2 ⟨⟨_, Tryz.func76, c76, n76⟩, tl42⟩
def t40 : List (Nat × AFun) := (75, a75) :: t41
theorem tl40 : ∀ x ∈ t40, EntryOk Tryz.prog x := List.forall_mem_cons.2 ⟨⟨_, Tryz.func75, c75, n75⟩, tl41⟩
def t39 : List (Nat × AFun) := (74, a74) :: t40
theorem tl39 : ∀ x ∈ t39, EntryOk Tryz.prog x := List.forall_mem_cons.2 ⟨⟨_, Tryz.func74, c74, n74⟩, tl40⟩
def t38 : List (Nat × AFun) := (73, a73) :: t39
theorem tl38 : ∀ x ∈ t38, EntryOk Tryz.prog x := List.forall_mem_cons.2 ⟨⟨_, Tryz.func73, c73, n73⟩, tl39⟩
def t37 : List (Nat × AFun) := (72, a72) :: t38
theorem tl37 : ∀ x ∈ t37, EntryOk Tryz.prog x := List.forall_mem_cons.2 ⟨⟨_, Tryz.func72, c72, n72⟩, tl38⟩
def t36 : List (Nat × AFun) := (71, a71) :: t37
theorem tl36 : ∀ x ∈ t36, EntryOk Tryz.prog x := List.forall_mem_cons.2 ⟨⟨_, Tryz.func71, c71, n71⟩, tl37⟩
def t35 : List (Nat × AFun) := (70, a70) :: t36
theorem tl35 : ∀ x ∈ t35, EntryOk Tryz.prog x := List.forall_mem_cons.2 ⟨⟨_, Tryz.func70, c70, n70⟩, tl36⟩
def t34 : List (Nat × AFun) := (69, a69) :: t35
theorem tl34 : ∀ x ∈ t34, EntryOk Tryz.prog x := List.forall_mem_cons.2 ⟨⟨_, Tryz.func69, c69, n69⟩, tl35⟩
def t33 : List (Nat × AFun) := (68, a68) :: t34
theorem tl33 : ∀ x ∈ t33, EntryOk Tryz.prog x := List.forall_mem_cons.2 ⟨⟨_, Tryz.func68, c68, n68⟩, tl34⟩
def t32 : List (Nat × AFun) := (67, a67) :: t33
theorem tl32 : ∀ x ∈ t32, EntryOk Tryz.prog x := List.forall_mem_cons.2 ⟨⟨_, Tryz.func67, c67, n67⟩, tl33⟩
def t31 : List (Nat × AFun) := (66, a66) :: t32
theorem tl31 : ∀ x ∈ t31, EntryOk Tryz.prog x := List.forall_mem_cons.2 ⟨⟨_, Tryz.func66, c66, n66⟩, tl32⟩
def t30 : List (Nat × AFun) := (65, a65) :: t31
theorem tl30 : ∀ x ∈ t30, EntryOk Tryz.prog x := List.forall_mem_cons.2 ⟨⟨_, Tryz.func65, c65, n65⟩, tl31⟩
def t29 : List (Nat × AFun) := (64, a64) :: t30
theorem tl29 : ∀ x ∈ t29, EntryOk Tryz.prog x := List.forall_mem_cons.2 ⟨⟨_, Tryz.func64, c64, n64⟩, tl30⟩
def t28 : List (Nat × AFun) := (58, a58) :: t29
theorem tl28 : ∀ x ∈ t28, EntryOk Tryz.prog x := List.forall_mem_cons.2 ⟨⟨_, Tryz.func58, c58, n58⟩, tl29⟩
def t27 : List (Nat × AFun) := (57, a57) :: t28
theorem tl27 : ∀ x ∈ t27, EntryOk Tryz.prog x := List.forall_mem_cons.2 ⟨⟨_, Tryz.func57, c57, n57⟩, tl28⟩
def t26 : List (Nat × AFun) := (55, a55) :: t27
theorem tl26 : ∀ x ∈ t26, EntryOk Tryz.prog x := List.forall_mem_cons.2 ⟨⟨_, Tryz.func55, c55, n55⟩, tl27⟩
def t25 : List (Nat × AFun) := (51, a51) :: t26
theorem tl25 : ∀ x ∈ t25, EntryOk Tryz.prog x := List.forall_mem_cons.2 ⟨⟨_, Tryz.func51, c51, n51⟩, tl26⟩
def t24 : List (Nat × AFun) := (50, a50) :: t25
theorem tl24 : ∀ x ∈ t24, EntryOk Tryz.prog x := List.forall_mem_cons.2 ⟨⟨_, Tryz.func50, c50, n50⟩, tl25⟩
def t23 : List (Nat × AFun) := (49, a49) :: t24
theorem tl23 : ∀ x ∈ t23, EntryOk Tryz.prog x := List.forall_mem_cons.2 ⟨⟨_, Tryz.func49, c49, n49⟩, tl24⟩
def t22 : List (Nat × AFun) := (47, a47) :: t23
theorem tl22 : ∀ x ∈ t22, EntryOk Tryz.prog x := List.forall_mem_cons.2 ⟨⟨_, Tryz.func47, c47, n47⟩, tl23⟩
def t21 : List (Nat × AFun) := (40, a40) :: t22
theorem tl21 : ∀ x ∈ t21, EntryOk Tryz.prog x := List.forall_mem_cons.2 ⟨⟨_, Tryz.func40, c40, n40⟩, tl22⟩
def t20 : List (Nat × AFun) := (39, a39) :: t21
theorem tl20 : ∀ x ∈ t20, EntryOk Tryz.prog x := List.forall_mem_cons.2 ⟨⟨_, Tryz.func39, c39, n39⟩, tl21⟩
def t19 : List (Nat × AFun) := (38, a38) :: t20
theorem tl19 : ∀ x ∈ t19, EntryOk Tryz.prog x := List.forall_mem_cons.2 ⟨⟨_, Tryz.func38, c38, n38⟩, tl20⟩
def t18 : List (Nat × AFun) := (37, a37) :: t19
theorem tl18 : ∀ x ∈ t18, EntryOk Tryz.prog x := List.forall_mem_cons.2 ⟨⟨_, Tryz.func37, c37, n37⟩, tl19⟩
def t17 : List (Nat × AFun) := (36, a36) :: t18
theorem tl17 : ∀ x ∈ t17, EntryOk Tryz.prog x := List.forall_mem_cons.2 ⟨⟨_, Tryz.func36, c36, n36⟩, tl18⟩
def t16 : List (Nat × AFun) := (35, a35) :: t17
theorem tl16 : ∀ x ∈ t16, EntryOk Tryz.prog x := List.forall_mem_cons.2 ⟨⟨_, Tryz.func35, c35, n35⟩, tl17⟩
def t15 : List (Nat × AFun) := (34, a34) :: t16
theorem tl15 : ∀ x ∈ t15, EntryOk Tryz.prog x := List.forall_mem_cons.2 ⟨⟨_, Tryz.func34, c34, n34⟩, tl16⟩
def t14 : List (Nat × AFun) := (33, a33) :: t15
theorem tl14 : ∀ x ∈ t14, EntryOk Tryz.prog x := List.forall_mem_cons.2 ⟨⟨_, Tryz.func33, c33, n33⟩, tl15⟩
def t13 : List (Nat × AFun) := (32, a32) :: t14
theorem tl13 : ∀ x ∈ t13, EntryOk Tryz.prog x := List.forall_mem_cons.2 ⟨⟨_, Tryz.func32, c32, n32⟩, tl14⟩
def t12 : List (Nat × AFun) := (29, a29) :: t13
theorem tl12 : ∀ x ∈ t12, EntryOk Tryz.prog x := List.forall_mem_cons.2 ⟨⟨_, Tryz.func29, c29, n29⟩, tl13⟩
def t11 : List (Nat × AFun) := (28, a28) :: t12
theorem tl11 : ∀ x ∈ t11, EntryOk Tryz.prog x := List.forall_mem_cons.2 ⟨⟨_, Tryz.func28, c28, n28⟩, tl12⟩
def t10 : List (Nat × AFun) := (26, a26) :: t11
theorem tl10 : ∀ x ∈ t10, EntryOk Tryz.prog x := List.forall_mem_cons.2 ⟨⟨_, Tryz.func26, c26, n26⟩, tl11⟩
def t9 : List (Nat × AFun) := (18, a18) :: t10
theorem tl9 : ∀ x ∈ t9, EntryOk Tryz.prog x := List.forall_mem_cons.2 ⟨⟨_, Tryz.func18, c18, n18⟩, tl10⟩
def t8 : List (Nat × AFun) := (17, a17) :: t9
theorem tl8 : ∀ x ∈ t8, EntryOk Tryz.prog x := List.forall_mem_cons.2 ⟨⟨_, Tryz.func17, c17, n17⟩, tl9⟩
def t7 : List (Nat × AFun) := (16, a16) :: t8
theorem tl7 : ∀ x ∈ t7, EntryOk Tryz.prog x := List.forall_mem_cons.2 ⟨⟨_, Tryz.func16, c16, n16⟩, tl8⟩
def t6 : List (Nat × AFun) := (15, a15) :: t7
theorem tl6 : ∀ x ∈ t6, EntryOk Tryz.prog x := List.forall_mem_cons.2 ⟨⟨_, Tryz.func15, c15, n15⟩, tl7⟩
def t5 : List (Nat × AFun) := (14, a14) :: t6
theorem tl5 : ∀ x ∈ t5, EntryOk Tryz.prog x := List.forall_mem_cons.2 ⟨⟨_, Tryz.func14, c14, n14⟩, tl6⟩
def t4 : List (Nat × AFun) := (13, a13) :: t5
theorem tl4 : ∀ x ∈ t4, EntryOk Tryz.prog x := List.forall_mem_cons.2 ⟨⟨_, Tryz.func13, c13, n13⟩, tl5⟩
def t3 : List (Nat × AFun) := (12, a12) :: t4
theorem tl3 : ∀ x ∈ t3, EntryOk Tryz.prog x := List.forall_mem_cons.2 ⟨⟨_, Tryz.func12, c12, n12⟩, tl4⟩
def t2 : List (Nat × AFun) := (11, a11) :: t3
theorem tl2 : ∀ x ∈ t2, EntryOk Tryz.prog x := List.forall_mem_cons.2 ⟨⟨_, Tryz.func11, c11, n11⟩, tl3⟩
def t1 : List (Nat × AFun) := (10, a10) :: t2
theorem tl1 : ∀ x ∈ t1, EntryOk Tryz.prog x := List.forall_mem_cons.2 ⟨⟨_, Tryz.func10, c10, n10⟩, tl2⟩
def t0 : List (Nat × AFun) := (3, a3) :: t1
theorem tl0 : ∀ x ∈ t0, EntryOk Tryz.prog x := List.forall_mem_cons.2 ⟨⟨_, Tryz.func3, c3, n3⟩, tl1⟩
theorem tab_t : tab = t0 := rfl
theorem funs_ok : FunsOk Tryz.prog (look tab) := funs_of_all (tab_t ▸ tl0)
theorem mixed : Tryz.prog.follows .mixedOrders = true := by kernel_rfl
end Go.AM
